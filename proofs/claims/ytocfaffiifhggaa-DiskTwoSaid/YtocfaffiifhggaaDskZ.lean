/- The law DiskTwo: the plain part, and the walk. -/
import Derived.Test.YtocfaffiifhggaaDskY
import Derived.Test.YtocfaffiifhggaaLexn
import Derived.Test.YtocfaffiifhggaaLexh
namespace Go.Proofs.Ytocfaffiifhggaa
open Go.RowKit Go.Maps Go.WideMaps Go.WideShapes Go.Deep
attribute [local go_sem] bs_toList bs_size

/-- The last bytes of a name, among the first so many. -/
def wantOf (l b : List (List UInt8)) (x : List UInt8) : Nat → List UInt8
  | 0 => []
  | k + 1 => if l.getD k [] = x then b.getD k [] else wantOf l b x k
theorem wantOf_hit {l b : List (List UInt8)} {x : List UInt8} {k : Nat} (h : l.getD k [] = x) : wantOf l b x (k + 1) = b.getD k [] := if_pos h
theorem wantOf_miss {l b : List (List UInt8)} {x : List UInt8} {k : Nat} (h : l.getD k [] ≠ x) : wantOf l b x (k + 1) = wantOf l b x k := if_neg h
/-- So many files were saved. -/
structure TwoI (l b : List (List UInt8)) (j : Nat) (N : Nm) (fl : Nat → Fl) : Prop where
  len : N.length ≤ j
  has : ∀ i, i < j → ∃ g, N.at (l.getD i []) = some g
  val : ∀ x g, N.at x = some g → fl g = ⟨wantOf l b x j, wantOf l b x j, []⟩
  pre : ∀ p ∈ N, p.1.take 4 ≠ tmpB
  size : sizeIn fl N ≤ 300 * j
section
variable {l b : List (List UInt8)} {j : Nat} {N : Nm} {fl : Nat → Fl}
theorem TwoI.start : TwoI l b 0 [] fl := ⟨by simp, by omega, fun x g h => by simp [Nm.at] at h, by simp, by simp [sizeIn]⟩
theorem TwoI.tmp (h : TwoI l b j N fl) (name : List UInt8) : N.at (tmpB ++ name) = none := by
  cases hc : N.at (tmpB ++ name) with
  | none => rfl
  | some g => exact absurd (by simp [tmpB]) (h.pre _ (Nm.mem_at hc))
theorem TwoI.still (h : TwoI l b j N fl) (hN : N.ok) : ∀ k ∈ N.ids, (fl k).still := fun k hk => by
  obtain ⟨p, hp, rfl⟩ := List.mem_map.1 hk
  rw [h.val p.1 p.2 (Nm.at_of_mem hN hp)]
  exact ⟨rfl, rfl⟩
theorem TwoI.same {fl' : Nat → Fl} (h : TwoI l b j N fl) (he : ∀ k ∈ N.ids, fl' k = fl k) : TwoI l b j N fl' :=
  ⟨h.len, h.has, fun x g hx => by rw [he g (Nm.at_ids hx)]; exact h.val x g hx, h.pre, by rw [sizeIn_congr he]; exact h.size⟩
theorem TwoI.next (h : TwoI l b j N fl) (hN : N.ok) {g : Nat} (hg : g ∉ N.ids) (hb : (b.getD j []).length ≤ 300) (hp : (l.getD j []).take 4 ≠ tmpB) :
    TwoI l b (j + 1) (N.put (l.getD j []) g) (flSet fl g ⟨b.getD j [], b.getD j [], []⟩) where
  len := by have := Nm.length_put_le N (l.getD j []) g; have := h.len; omega
  has := fun i hi => by
    by_cases e : l.getD i [] = l.getD j []
    · rw [e]
      exact ⟨g, Nm.at_put_same _ _ _⟩
    · rw [Nm.at_put_other _ _ e]
      have hij : i ≠ j := fun e' => e (by rw [e'])
      exact h.has i (by omega)
  val := fun x k hk => by
    by_cases e : x = l.getD j []
    · rw [e, Nm.at_put_same] at hk
      obtain rfl : g = k := by simpa using hk
      rw [flSet_same, wantOf_hit e.symm]
    · rw [Nm.at_put_other _ _ e] at hk
      have hne : k ≠ g := fun e => hg (e ▸ Nm.at_ids hk)
      rw [flSet_other _ _ hne, wantOf_miss (fun e' => e e'.symm)]
      exact h.val x k hk
  pre := fun p hm => by
    rcases Nm.mem_put.1 hm with rfl | ⟨hm, _⟩
    · exact hp
    · exact h.pre p hm
  size := by
    have h1 := sizeIn_put (flSet fl g ⟨b.getD j [], b.getD j [], []⟩) (l.getD j []) g N hN.1
    have h2 : sizeIn (flSet fl g ⟨b.getD j [], b.getD j [], []⟩) N = sizeIn fl N := sizeIn_congr fun k hk => flSet_other _ _ fun e => hg (e ▸ hk)
    have h3 := h.size
    rw [flSet_same, h2] at h1
    simp only at h1
    omega
end

theorem two_put {x y : List UInt8} {N : Nm} {g : Nat} {fl : Nat → Fl} {l bb : List (List UInt8)} {j : Nat} (hx : l.getD j [] = x) (hy : bb.getD j [] = y) (h : TwoI l bb j N fl) (hN : N.ok) (hg : g ∉ N.ids) (hb : y.length ≤ 300) (hp : x.take 4 ≠ tmpB) :
    TwoI l bb (j + 1) (N.put x g) (flSet fl g ⟨y, y, []⟩) := by
  subst hx hy
  exact h.next hN hg hb hp

set_option maxRecDepth 100000 in
set_option maxHeartbeats 8000000 in
theorem DiskTwo_lists {W : World} {lv bv kv : Value} {l b : List (List UInt8)} {ks : List Int} (hl : StrsAt W lv l) (hb : StrsAt W bv b) (h : KeepAt W kv ks) :
    Calls Try.prog 4 #[lv, bv, kv] W fun e w' => e = .returned (.bool true) ∧ Below W.heap.size W w' := by
  obtain ⟨sal, scl, rfl, hll, hlx⟩ := hl
  obtain ⟨sab, scb, rfl, hbl, hbx⟩ := hb
  obtain ⟨sak, sck, rfl, hkl, _⟩ := id h
  unfold maxLen at hll hbl hkl
  have q0 := Lib.hid (works_any W)
  go_enter Try.func4, Try.ntmps4
  go_wp2_with fail
  refine q0.out.mono ?_
  rintro e w0 ⟨rfl, hbw⟩
  have qn := Lib.hid (New_any w0 100000)
  go_wp2_with fail
  refine qn.out.mono ?_
  rintro e w1 ⟨G, F1, rfl, hM, hT, hF⟩
  have m1 : Mach W w1 G ⟨[], [], [], fun _ => Fl.new, 100000, 0, -1, false⟩ F1 := ⟨hM, hbw.trans (hT.kept.below hbw.size (fun k hk => hk.elim)), fun k hk => Nat.le_trans hbw.size (hF k hk), new_ok 100000⟩
  clear hM hT hF q0 qn hbw
  by_cases h1 : 10 < l.length
  · go_wp2
    go_ret
    exact ⟨rfl, m1.bel⟩
  by_cases h2 : b.length = l.length
  case neg =>
    go_wp2
    go_ret
    exact ⟨rfl, m1.bel⟩
  rw [h2]
  by_cases h3 : 20 < ks.length
  · go_wp2
    go_ret
    exact ⟨rfl, m1.bel⟩
  generalize hn : l.length = n at *
  have HL := Lib.hid hlx
  have HBX := Lib.hid hbx
  have HN := Lib.hid hn
  have HN2 := Lib.hid h2
  have HK := Lib.hid h
  clear hlx hbx hn h2 h
  go_wp2_with fail
  go_loopw [9] (fun i wr => ∃ (j : Nat) (N : Nm) (fl : Nat → Fl) (F : Nat → Prop), j ≤ n ∧ i = .int .i64 (j : Int) ∧ Mach W wr G ⟨N, N, [], fl, 100000, 5 * j, -1, false⟩ F ∧ TwoI l b j N fl) (fun i _ => n - (intOf i).toNat)
  case atStart => exact ⟨0, [], _, F1, Nat.zero_le _, rfl, m1, TwoI.start⟩
  clear m1
  obtain ⟨j, N, fl, F, hj, rfl, m, hI⟩ := hrel
  rcases (show j < n ∨ j = n by omega) with hjn | rfl
  · obtain ⟨b1, o1, rfl, d1, e1⟩ := HL.out j (l.getD j []) (by rw [List.getD_eq_getElem?_getD, List.getElem?_eq_getElem (by rw [HN.out]; exact hjn)]; rfl)
    obtain ⟨b2, o2, rfl, d2, e2⟩ := HBX.out j (b.getD j []) (by rw [List.getD_eq_getElem?_getD, List.getElem?_eq_getElem (by rw [HN2.out]; exact hjn)]; rfl)
    have g1 := (Below.cell m.bel (World.block_lt_of_cell? _ _ d1)).trans d1
    have g2 := (Below.cell m.bel (World.block_lt_of_cell? _ _ d2)).trans d2
    unfold maxLen at e1 e2
    clear d1 d2
    have k1 := grow_cell g1
    have k2 := grow_cell g2
    have HX := Lib.hid (Eq.refl (l.getD j []))
    have HY := Lib.hid (Eq.refl (b.getD j []))
    generalize hx : l.getD j [] = x at g1 k1 e1 HX
    generalize hy : b.getD j [] = y at g2 k2 e2 HY
    have hx' := Lib.hid hx
    have hy' := Lib.hid hy
    clear hx hy HX HY
    by_cases c1 : 36 < x.length
    · have d36 : decide (36 < (x.length : Int)) = true := by simp; omega
      go_wp2_with fail
      refine wp_region_at (R := GrowR) (by kernel_rfl) (by kernel_rfl) ?_
      (refine lex_one (by kernel_rfl) (by kernel_rfl) (by kernel_rfl) (fun K hK => ?_); go_big_quiet_step (fail); refine wpQuiet_nil (hK _ ?_); clear hK K); (refine lex_one (by kernel_rfl) (by kernel_rfl) (by kernel_rfl) (fun K hK => ?_); go_big_quiet_step (fail); refine wpQuiet_nil (hK _ ?_); clear hK K); (refine lex_one (by kernel_rfl) (by kernel_rfl) (by kernel_rfl) (fun K hK => ?_); go_big_quiet_step (fail); refine wpQuiet_nil (hK _ ?_); clear hK K); (refine lex_one (by kernel_rfl) (by kernel_rfl) (by kernel_rfl) (fun K hK => ?_); go_big_quiet_step (fail); refine wpQuiet_nil (hK _ ?_); clear hK K); (refine lex_val (v := .int .i64 (x.length : Int)) (by kernel_rfl) (fun _ _ h => by cases h) (by kernel_rfl) (by kernel_rfl) (fun _ _ => by go_simp) (lex_put (type := 0) (pos := "") (fun K hK => ?_)); go_big_quiet_step (fail); refine wpQuiet_nil (hK _ ?_); clear hK K); (refine lex_one (by kernel_rfl) (by kernel_rfl) (by kernel_rfl) (fun K hK => ?_); go_big_quiet_step (fail); refine wpQuiet_nil (hK _ ?_); clear hK K); (refine lex_one (by kernel_rfl) (by kernel_rfl) (by kernel_rfl) (fun K hK => ?_); go_big_quiet_step (fail); refine wpQuiet_nil (hK _ ?_); clear hK K)
      (refine lex_none (by kernel_rfl) (by kernel_rfl) (by kernel_rfl) (fun K hK => ?_); go_big_quiet_step (fail); refine wpQuiet_nil (hK _ ?_); clear hK K); (refine lex_none (by kernel_rfl) (by kernel_rfl) (by kernel_rfl) (fun K hK => ?_); go_big_quiet_step (fail); refine wpQuiet_nil (hK _ ?_); clear hK K); (refine lex_none (by kernel_rfl) (by kernel_rfl) (by kernel_rfl) (fun K hK => ?_); go_big_quiet_step (fail); refine wpQuiet_nil (hK _ ?_); clear hK K); (refine lex_none (by kernel_rfl) (by kernel_rfl) (by kernel_rfl) (fun K hK => ?_); go_big_quiet_step (fail); refine wpQuiet_nil (hK _ ?_); clear hK K); (refine lex_none (by kernel_rfl) (by kernel_rfl) (by kernel_rfl) (fun K hK => ?_); go_big_quiet_step (fail); refine wpQuiet_nil (hK _ ?_); clear hK K); (refine lex_none (by kernel_rfl) (by kernel_rfl) (by kernel_rfl) (fun K hK => ?_); go_big_quiet_step (fail); refine wpQuiet_nil (hK _ ?_); clear hK K)
      (refine lex_one (by kernel_rfl) (by kernel_rfl) (by kernel_rfl) (fun K hK => ?_); go_big_quiet_step (fail); refine wpQuiet_nil (hK _ ?_); clear hK K); (refine lex_one (by kernel_rfl) (by kernel_rfl) (by kernel_rfl) (fun K hK => ?_); go_big_quiet_step (fail); refine wpQuiet_nil (hK _ ?_); clear hK K)
      (refine lex_none (by kernel_rfl) (by kernel_rfl) (by kernel_rfl) (fun K hK => ?_); go_big_quiet_step (fail); refine wpQuiet_nil (hK _ ?_); clear hK K); (refine lex_none (by kernel_rfl) (by kernel_rfl) (by kernel_rfl) (fun K hK => ?_); go_big_quiet_step (fail); refine wpQuiet_nil (hK _ ?_); clear hK K); (refine lex_none (by kernel_rfl) (by kernel_rfl) (by kernel_rfl) (fun K hK => ?_); go_big_quiet_step (fail); refine wpQuiet_nil (hK _ ?_); clear hK K); (refine lex_none (by kernel_rfl) (by kernel_rfl) (by kernel_rfl) (fun K hK => ?_); go_big_quiet_step (fail); refine wpQuiet_nil (hK _ ?_); clear hK K); (refine lex_none (by kernel_rfl) (by kernel_rfl) (by kernel_rfl) (fun K hK => ?_); go_big_quiet_step (fail); refine wpQuiet_nil (hK _ ?_); clear hK K)
      (refine lex_one (by kernel_rfl) (by kernel_rfl) (by kernel_rfl) (fun K hK => ?_); go_big_quiet_step (fail); refine wpQuiet_nil (hK _ ?_); clear hK K); (refine lex_one (by kernel_rfl) (by kernel_rfl) (by kernel_rfl) (fun K hK => ?_); go_big_quiet_step (fail); refine wpQuiet_nil (hK _ ?_); clear hK K)
      (refine lex_none (by kernel_rfl) (by kernel_rfl) (by kernel_rfl) (fun K hK => ?_); go_big_quiet_step (fail); refine wpQuiet_nil (hK _ ?_); clear hK K); (refine lex_none (by kernel_rfl) (by kernel_rfl) (by kernel_rfl) (fun K hK => ?_); go_big_quiet_step (fail); refine wpQuiet_nil (hK _ ?_); clear hK K); (refine lex_none (by kernel_rfl) (by kernel_rfl) (by kernel_rfl) (fun K hK => ?_); go_big_quiet_step (fail); refine wpQuiet_nil (hK _ ?_); clear hK K); (refine lex_none (by kernel_rfl) (by kernel_rfl) (by kernel_rfl) (fun K hK => ?_); go_big_quiet_step (fail); refine wpQuiet_nil (hK _ ?_); clear hK K); (refine lex_none (by kernel_rfl) (by kernel_rfl) (by kernel_rfl) (fun K hK => ?_); go_big_quiet_step (fail); refine wpQuiet_nil (hK _ ?_); clear hK K); (refine lex_none (by kernel_rfl) (by kernel_rfl) (by kernel_rfl) (fun K hK => ?_); go_big_quiet_step (fail); refine wpQuiet_nil (hK _ ?_); clear hK K); (refine lex_none (by kernel_rfl) (by kernel_rfl) (by kernel_rfl) (fun K hK => ?_); go_big_quiet_step (fail); refine wpQuiet_nil (hK _ ?_); clear hK K); (refine lex_none (by kernel_rfl) (by kernel_rfl) (by kernel_rfl) (fun K hK => ?_); go_big_quiet_step (fail); refine wpQuiet_nil (hK _ ?_); clear hK K); (refine lex_none (by kernel_rfl) (by kernel_rfl) (by kernel_rfl) (fun K hK => ?_); go_big_quiet_step (fail); refine wpQuiet_nil (hK _ ?_); clear hK K); (refine lex_none (by kernel_rfl) (by kernel_rfl) (by kernel_rfl) (fun K hK => ?_); go_big_quiet_step (fail); refine wpQuiet_nil (hK _ ?_); clear hK K); (refine lex_none (by kernel_rfl) (by kernel_rfl) (by kernel_rfl) (fun K hK => ?_); go_big_quiet_step (fail); refine wpQuiet_nil (hK _ ?_); clear hK K); (refine lex_none (by kernel_rfl) (by kernel_rfl) (by kernel_rfl) (fun K hK => ?_); go_big_quiet_step (fail); refine wpQuiet_nil (hK _ ?_); clear hK K)
      (refine lex_one (by kernel_rfl) (by kernel_rfl) (by kernel_rfl) (fun K hK => ?_); go_big_quiet_step (fail); refine wpQuiet_nil (hK _ ?_); clear hK K)
      refine lex_nil (by kernel_rfl) (by kernel_rfl) (by kernel_rfl) ?_
      intro w5 hw5
      simp only [hideAll]
      go_wp2
      go_ret
      exact ⟨rfl, m.bel.trans (hw5.mono m.bel.size)⟩
    have d36 : decide (36 < (x.length : Int)) = false := by simp; omega
    by_cases c2 : 300 < y.length
    · have d300 : decide (300 < (y.length : Int)) = true := by simp; omega
      go_wp2_with fail
      refine wp_region_at (R := GrowR) (by kernel_rfl) (by kernel_rfl) ?_
      (refine lex_one (by kernel_rfl) (by kernel_rfl) (by kernel_rfl) (fun K hK => ?_); go_big_quiet_step (fail); refine wpQuiet_nil (hK _ ?_); clear hK K); (refine lex_one (by kernel_rfl) (by kernel_rfl) (by kernel_rfl) (fun K hK => ?_); go_big_quiet_step (fail); refine wpQuiet_nil (hK _ ?_); clear hK K); (refine lex_one (by kernel_rfl) (by kernel_rfl) (by kernel_rfl) (fun K hK => ?_); go_big_quiet_step (fail); refine wpQuiet_nil (hK _ ?_); clear hK K); (refine lex_one (by kernel_rfl) (by kernel_rfl) (by kernel_rfl) (fun K hK => ?_); go_big_quiet_step (fail); refine wpQuiet_nil (hK _ ?_); clear hK K); (refine lex_val (v := .int .i64 (x.length : Int)) (by kernel_rfl) (fun _ _ h => by cases h) (by kernel_rfl) (by kernel_rfl) (fun _ _ => by go_simp) (lex_put (type := 0) (pos := "") (fun K hK => ?_)); go_big_quiet_step (fail); refine wpQuiet_nil (hK _ ?_); clear hK K); (refine lex_one (by kernel_rfl) (by kernel_rfl) (by kernel_rfl) (fun K hK => ?_); go_big_quiet_step (fail); refine wpQuiet_nil (hK _ ?_); clear hK K); (refine lex_one (by kernel_rfl) (by kernel_rfl) (by kernel_rfl) (fun K hK => ?_); go_big_quiet_step (fail); refine wpQuiet_nil (hK _ ?_); clear hK K); (refine lex_one (by kernel_rfl) (by kernel_rfl) (by kernel_rfl) (fun K hK => ?_); go_big_quiet_step (fail); refine wpQuiet_nil (hK _ ?_); clear hK K); (refine lex_one (by kernel_rfl) (by kernel_rfl) (by kernel_rfl) (fun K hK => ?_); go_big_quiet_step (fail); refine wpQuiet_nil (hK _ ?_); clear hK K); (refine lex_one (by kernel_rfl) (by kernel_rfl) (by kernel_rfl) (fun K hK => ?_); go_big_quiet_step (fail); refine wpQuiet_nil (hK _ ?_); clear hK K); (refine lex_one (by kernel_rfl) (by kernel_rfl) (by kernel_rfl) (fun K hK => ?_); go_big_quiet_step (fail); refine wpQuiet_nil (hK _ ?_); clear hK K); (refine lex_val (v := .int .i64 (y.length : Int)) (by kernel_rfl) (fun _ _ h => by cases h) (by kernel_rfl) (by kernel_rfl) (fun _ _ => by go_simp) (lex_put (type := 0) (pos := "") (fun K hK => ?_)); go_big_quiet_step (fail); refine wpQuiet_nil (hK _ ?_); clear hK K); (refine lex_one (by kernel_rfl) (by kernel_rfl) (by kernel_rfl) (fun K hK => ?_); go_big_quiet_step (fail); refine wpQuiet_nil (hK _ ?_); clear hK K); (refine lex_one (by kernel_rfl) (by kernel_rfl) (by kernel_rfl) (fun K hK => ?_); go_big_quiet_step (fail); refine wpQuiet_nil (hK _ ?_); clear hK K); (refine lex_one (by kernel_rfl) (by kernel_rfl) (by kernel_rfl) (fun K hK => ?_); go_big_quiet_step (fail); refine wpQuiet_nil (hK _ ?_); clear hK K)
      (refine lex_none (by kernel_rfl) (by kernel_rfl) (by kernel_rfl) (fun K hK => ?_); go_big_quiet_step (fail); refine wpQuiet_nil (hK _ ?_); clear hK K); (refine lex_none (by kernel_rfl) (by kernel_rfl) (by kernel_rfl) (fun K hK => ?_); go_big_quiet_step (fail); refine wpQuiet_nil (hK _ ?_); clear hK K); (refine lex_none (by kernel_rfl) (by kernel_rfl) (by kernel_rfl) (fun K hK => ?_); go_big_quiet_step (fail); refine wpQuiet_nil (hK _ ?_); clear hK K); (refine lex_none (by kernel_rfl) (by kernel_rfl) (by kernel_rfl) (fun K hK => ?_); go_big_quiet_step (fail); refine wpQuiet_nil (hK _ ?_); clear hK K); (refine lex_none (by kernel_rfl) (by kernel_rfl) (by kernel_rfl) (fun K hK => ?_); go_big_quiet_step (fail); refine wpQuiet_nil (hK _ ?_); clear hK K)
      (refine lex_one (by kernel_rfl) (by kernel_rfl) (by kernel_rfl) (fun K hK => ?_); go_big_quiet_step (fail); refine wpQuiet_nil (hK _ ?_); clear hK K); (refine lex_one (by kernel_rfl) (by kernel_rfl) (by kernel_rfl) (fun K hK => ?_); go_big_quiet_step (fail); refine wpQuiet_nil (hK _ ?_); clear hK K)
      (refine lex_none (by kernel_rfl) (by kernel_rfl) (by kernel_rfl) (fun K hK => ?_); go_big_quiet_step (fail); refine wpQuiet_nil (hK _ ?_); clear hK K); (refine lex_none (by kernel_rfl) (by kernel_rfl) (by kernel_rfl) (fun K hK => ?_); go_big_quiet_step (fail); refine wpQuiet_nil (hK _ ?_); clear hK K); (refine lex_none (by kernel_rfl) (by kernel_rfl) (by kernel_rfl) (fun K hK => ?_); go_big_quiet_step (fail); refine wpQuiet_nil (hK _ ?_); clear hK K); (refine lex_none (by kernel_rfl) (by kernel_rfl) (by kernel_rfl) (fun K hK => ?_); go_big_quiet_step (fail); refine wpQuiet_nil (hK _ ?_); clear hK K); (refine lex_none (by kernel_rfl) (by kernel_rfl) (by kernel_rfl) (fun K hK => ?_); go_big_quiet_step (fail); refine wpQuiet_nil (hK _ ?_); clear hK K); (refine lex_none (by kernel_rfl) (by kernel_rfl) (by kernel_rfl) (fun K hK => ?_); go_big_quiet_step (fail); refine wpQuiet_nil (hK _ ?_); clear hK K); (refine lex_none (by kernel_rfl) (by kernel_rfl) (by kernel_rfl) (fun K hK => ?_); go_big_quiet_step (fail); refine wpQuiet_nil (hK _ ?_); clear hK K); (refine lex_none (by kernel_rfl) (by kernel_rfl) (by kernel_rfl) (fun K hK => ?_); go_big_quiet_step (fail); refine wpQuiet_nil (hK _ ?_); clear hK K); (refine lex_none (by kernel_rfl) (by kernel_rfl) (by kernel_rfl) (fun K hK => ?_); go_big_quiet_step (fail); refine wpQuiet_nil (hK _ ?_); clear hK K); (refine lex_none (by kernel_rfl) (by kernel_rfl) (by kernel_rfl) (fun K hK => ?_); go_big_quiet_step (fail); refine wpQuiet_nil (hK _ ?_); clear hK K); (refine lex_none (by kernel_rfl) (by kernel_rfl) (by kernel_rfl) (fun K hK => ?_); go_big_quiet_step (fail); refine wpQuiet_nil (hK _ ?_); clear hK K); (refine lex_none (by kernel_rfl) (by kernel_rfl) (by kernel_rfl) (fun K hK => ?_); go_big_quiet_step (fail); refine wpQuiet_nil (hK _ ?_); clear hK K)
      (refine lex_one (by kernel_rfl) (by kernel_rfl) (by kernel_rfl) (fun K hK => ?_); go_big_quiet_step (fail); refine wpQuiet_nil (hK _ ?_); clear hK K)
      refine lex_nil (by kernel_rfl) (by kernel_rfl) (by kernel_rfl) ?_
      intro w5 hw5
      simp only [hideAll]
      go_wp2
      go_ret
      exact ⟨rfl, m.bel.trans (hw5.mono m.bel.size)⟩
    have d300 : decide (300 < (y.length : Int)) = false := by simp; omega
    by_cases c3 : x = []
    · have hem : x.isEmpty = true := by simpa using c3
      go_wp2_with fail
      refine wp_region_at (R := GrowR) (by kernel_rfl) (by kernel_rfl) ?_
      (refine lex_one (by kernel_rfl) (by kernel_rfl) (by kernel_rfl) (fun K hK => ?_); go_big_quiet_step (fail); refine wpQuiet_nil (hK _ ?_); clear hK K); (refine lex_one (by kernel_rfl) (by kernel_rfl) (by kernel_rfl) (fun K hK => ?_); go_big_quiet_step (fail); refine wpQuiet_nil (hK _ ?_); clear hK K); (refine lex_one (by kernel_rfl) (by kernel_rfl) (by kernel_rfl) (fun K hK => ?_); go_big_quiet_step (fail); refine wpQuiet_nil (hK _ ?_); clear hK K); (refine lex_one (by kernel_rfl) (by kernel_rfl) (by kernel_rfl) (fun K hK => ?_); go_big_quiet_step (fail); refine wpQuiet_nil (hK _ ?_); clear hK K); (refine lex_val (v := .int .i64 (x.length : Int)) (by kernel_rfl) (fun _ _ h => by cases h) (by kernel_rfl) (by kernel_rfl) (fun _ _ => by go_simp) (lex_put (type := 0) (pos := "") (fun K hK => ?_)); go_big_quiet_step (fail); refine wpQuiet_nil (hK _ ?_); clear hK K); (refine lex_one (by kernel_rfl) (by kernel_rfl) (by kernel_rfl) (fun K hK => ?_); go_big_quiet_step (fail); refine wpQuiet_nil (hK _ ?_); clear hK K); (refine lex_one (by kernel_rfl) (by kernel_rfl) (by kernel_rfl) (fun K hK => ?_); go_big_quiet_step (fail); refine wpQuiet_nil (hK _ ?_); clear hK K); (refine lex_one (by kernel_rfl) (by kernel_rfl) (by kernel_rfl) (fun K hK => ?_); go_big_quiet_step (fail); refine wpQuiet_nil (hK _ ?_); clear hK K); (refine lex_one (by kernel_rfl) (by kernel_rfl) (by kernel_rfl) (fun K hK => ?_); go_big_quiet_step (fail); refine wpQuiet_nil (hK _ ?_); clear hK K); (refine lex_one (by kernel_rfl) (by kernel_rfl) (by kernel_rfl) (fun K hK => ?_); go_big_quiet_step (fail); refine wpQuiet_nil (hK _ ?_); clear hK K); (refine lex_one (by kernel_rfl) (by kernel_rfl) (by kernel_rfl) (fun K hK => ?_); go_big_quiet_step (fail); refine wpQuiet_nil (hK _ ?_); clear hK K); (refine lex_val (v := .int .i64 (y.length : Int)) (by kernel_rfl) (fun _ _ h => by cases h) (by kernel_rfl) (by kernel_rfl) (fun _ _ => by go_simp) (lex_put (type := 0) (pos := "") (fun K hK => ?_)); go_big_quiet_step (fail); refine wpQuiet_nil (hK _ ?_); clear hK K); (refine lex_one (by kernel_rfl) (by kernel_rfl) (by kernel_rfl) (fun K hK => ?_); go_big_quiet_step (fail); refine wpQuiet_nil (hK _ ?_); clear hK K); (refine lex_one (by kernel_rfl) (by kernel_rfl) (by kernel_rfl) (fun K hK => ?_); go_big_quiet_step (fail); refine wpQuiet_nil (hK _ ?_); clear hK K); (refine lex_one (by kernel_rfl) (by kernel_rfl) (by kernel_rfl) (fun K hK => ?_); go_big_quiet_step (fail); refine wpQuiet_nil (hK _ ?_); clear hK K); (refine lex_one (by kernel_rfl) (by kernel_rfl) (by kernel_rfl) (fun K hK => ?_); go_big_quiet_step (fail); refine wpQuiet_nil (hK _ ?_); clear hK K); (refine lex_one (by kernel_rfl) (by kernel_rfl) (by kernel_rfl) (fun K hK => ?_); go_big_quiet_step (fail); refine wpQuiet_nil (hK _ ?_); clear hK K); (refine lex_one (by kernel_rfl) (by kernel_rfl) (by kernel_rfl) (fun K hK => ?_); go_big_quiet_step (fail); refine wpQuiet_nil (hK _ ?_); clear hK K); (refine lex_one (by kernel_rfl) (by kernel_rfl) (by kernel_rfl) (fun K hK => ?_); go_big_quiet_step (fail); refine wpQuiet_nil (hK _ ?_); clear hK K); (refine lex_one (by kernel_rfl) (by kernel_rfl) (by kernel_rfl) (fun K hK => ?_); go_big_quiet_step (fail); refine wpQuiet_nil (hK _ ?_); clear hK K); (refine lex_one (by kernel_rfl) (by kernel_rfl) (by kernel_rfl) (fun K hK => ?_); go_big_quiet_step (fail); refine wpQuiet_nil (hK _ ?_); clear hK K); (refine lex_one (by kernel_rfl) (by kernel_rfl) (by kernel_rfl) (fun K hK => ?_); go_big_quiet_step (fail); refine wpQuiet_nil (hK _ ?_); clear hK K)
      (refine lex_none (by kernel_rfl) (by kernel_rfl) (by kernel_rfl) (fun K hK => ?_); go_big_quiet_step (fail); refine wpQuiet_nil (hK _ ?_); clear hK K); (refine lex_none (by kernel_rfl) (by kernel_rfl) (by kernel_rfl) (fun K hK => ?_); go_big_quiet_step (fail); refine wpQuiet_nil (hK _ ?_); clear hK K); (refine lex_none (by kernel_rfl) (by kernel_rfl) (by kernel_rfl) (fun K hK => ?_); go_big_quiet_step (fail); refine wpQuiet_nil (hK _ ?_); clear hK K); (refine lex_none (by kernel_rfl) (by kernel_rfl) (by kernel_rfl) (fun K hK => ?_); go_big_quiet_step (fail); refine wpQuiet_nil (hK _ ?_); clear hK K); (refine lex_none (by kernel_rfl) (by kernel_rfl) (by kernel_rfl) (fun K hK => ?_); go_big_quiet_step (fail); refine wpQuiet_nil (hK _ ?_); clear hK K); (refine lex_none (by kernel_rfl) (by kernel_rfl) (by kernel_rfl) (fun K hK => ?_); go_big_quiet_step (fail); refine wpQuiet_nil (hK _ ?_); clear hK K); (refine lex_none (by kernel_rfl) (by kernel_rfl) (by kernel_rfl) (fun K hK => ?_); go_big_quiet_step (fail); refine wpQuiet_nil (hK _ ?_); clear hK K); (refine lex_none (by kernel_rfl) (by kernel_rfl) (by kernel_rfl) (fun K hK => ?_); go_big_quiet_step (fail); refine wpQuiet_nil (hK _ ?_); clear hK K); (refine lex_none (by kernel_rfl) (by kernel_rfl) (by kernel_rfl) (fun K hK => ?_); go_big_quiet_step (fail); refine wpQuiet_nil (hK _ ?_); clear hK K); (refine lex_none (by kernel_rfl) (by kernel_rfl) (by kernel_rfl) (fun K hK => ?_); go_big_quiet_step (fail); refine wpQuiet_nil (hK _ ?_); clear hK K); (refine lex_none (by kernel_rfl) (by kernel_rfl) (by kernel_rfl) (fun K hK => ?_); go_big_quiet_step (fail); refine wpQuiet_nil (hK _ ?_); clear hK K); (refine lex_none (by kernel_rfl) (by kernel_rfl) (by kernel_rfl) (fun K hK => ?_); go_big_quiet_step (fail); refine wpQuiet_nil (hK _ ?_); clear hK K)
      (refine lex_one (by kernel_rfl) (by kernel_rfl) (by kernel_rfl) (fun K hK => ?_); go_big_quiet_step (fail); refine wpQuiet_nil (hK _ ?_); clear hK K)
      refine lex_nil (by kernel_rfl) (by kernel_rfl) (by kernel_rfl) ?_
      intro w5 hw5
      simp only [hideAll]
      go_wp2
      go_ret
      exact ⟨rfl, m.bel.trans (hw5.mono m.bel.size)⟩
    have hne' : x.isEmpty = false := by simpa using c3
    have hext : ((bs x).extract 0 (min (x.length : Int) 4).toNat).toList = x.take 4 := by
      rw [bs_extract, bs_toList]
      have : (min (x.length : Int) 4).toNat = min x.length 4 := by omega
      rw [this, Nat.sub_zero, List.drop_zero]
      rcases (show x.length ≤ 4 ∨ 4 < x.length by omega) with hx | hx
      · rw [Nat.min_eq_left hx, List.take_of_length_le (Nat.le_refl _), List.take_of_length_le hx]
      · rw [Nat.min_eq_right (by omega)]
    by_cases c4 : x.take 4 = tmpB
    · have c4' : (x.take 4 == [116, 109, 112, 45]) = true := by simpa [tmpB] using c4
      go_wp2_with fail
      refine wp_region_at (R := GrowR) (by kernel_rfl) (by kernel_rfl) ?_
      (refine lex_one (by kernel_rfl) (by kernel_rfl) (by kernel_rfl) (fun K hK => ?_); go_big_quiet_step (fail); refine wpQuiet_nil (hK _ ?_); clear hK K); (refine lex_one (by kernel_rfl) (by kernel_rfl) (by kernel_rfl) (fun K hK => ?_); go_big_quiet_step (fail); refine wpQuiet_nil (hK _ ?_); clear hK K); (refine lex_one (by kernel_rfl) (by kernel_rfl) (by kernel_rfl) (fun K hK => ?_); go_big_quiet_step (fail); refine wpQuiet_nil (hK _ ?_); clear hK K); (refine lex_one (by kernel_rfl) (by kernel_rfl) (by kernel_rfl) (fun K hK => ?_); go_big_quiet_step (fail); refine wpQuiet_nil (hK _ ?_); clear hK K); (refine lex_val (v := .int .i64 (x.length : Int)) (by kernel_rfl) (fun _ _ h => by cases h) (by kernel_rfl) (by kernel_rfl) (fun _ _ => by go_simp) (lex_put (type := 0) (pos := "") (fun K hK => ?_)); go_big_quiet_step (fail); refine wpQuiet_nil (hK _ ?_); clear hK K); (refine lex_one (by kernel_rfl) (by kernel_rfl) (by kernel_rfl) (fun K hK => ?_); go_big_quiet_step (fail); refine wpQuiet_nil (hK _ ?_); clear hK K); (refine lex_one (by kernel_rfl) (by kernel_rfl) (by kernel_rfl) (fun K hK => ?_); go_big_quiet_step (fail); refine wpQuiet_nil (hK _ ?_); clear hK K); (refine lex_one (by kernel_rfl) (by kernel_rfl) (by kernel_rfl) (fun K hK => ?_); go_big_quiet_step (fail); refine wpQuiet_nil (hK _ ?_); clear hK K); (refine lex_one (by kernel_rfl) (by kernel_rfl) (by kernel_rfl) (fun K hK => ?_); go_big_quiet_step (fail); refine wpQuiet_nil (hK _ ?_); clear hK K); (refine lex_one (by kernel_rfl) (by kernel_rfl) (by kernel_rfl) (fun K hK => ?_); go_big_quiet_step (fail); refine wpQuiet_nil (hK _ ?_); clear hK K); (refine lex_one (by kernel_rfl) (by kernel_rfl) (by kernel_rfl) (fun K hK => ?_); go_big_quiet_step (fail); refine wpQuiet_nil (hK _ ?_); clear hK K); (refine lex_val (v := .int .i64 (y.length : Int)) (by kernel_rfl) (fun _ _ h => by cases h) (by kernel_rfl) (by kernel_rfl) (fun _ _ => by go_simp) (lex_put (type := 0) (pos := "") (fun K hK => ?_)); go_big_quiet_step (fail); refine wpQuiet_nil (hK _ ?_); clear hK K); (refine lex_one (by kernel_rfl) (by kernel_rfl) (by kernel_rfl) (fun K hK => ?_); go_big_quiet_step (fail); refine wpQuiet_nil (hK _ ?_); clear hK K); (refine lex_one (by kernel_rfl) (by kernel_rfl) (by kernel_rfl) (fun K hK => ?_); go_big_quiet_step (fail); refine wpQuiet_nil (hK _ ?_); clear hK K); (refine lex_one (by kernel_rfl) (by kernel_rfl) (by kernel_rfl) (fun K hK => ?_); go_big_quiet_step (fail); refine wpQuiet_nil (hK _ ?_); clear hK K); (refine lex_one (by kernel_rfl) (by kernel_rfl) (by kernel_rfl) (fun K hK => ?_); go_big_quiet_step (fail); refine wpQuiet_nil (hK _ ?_); clear hK K); (refine lex_one (by kernel_rfl) (by kernel_rfl) (by kernel_rfl) (fun K hK => ?_); go_big_quiet_step (fail); refine wpQuiet_nil (hK _ ?_); clear hK K); (refine lex_one (by kernel_rfl) (by kernel_rfl) (by kernel_rfl) (fun K hK => ?_); go_big_quiet_step (fail); refine wpQuiet_nil (hK _ ?_); clear hK K); (refine lex_one (by kernel_rfl) (by kernel_rfl) (by kernel_rfl) (fun K hK => ?_); go_big_quiet_step (fail); refine wpQuiet_nil (hK _ ?_); clear hK K); (refine lex_one (by kernel_rfl) (by kernel_rfl) (by kernel_rfl) (fun K hK => ?_); go_big_quiet_step (fail); refine wpQuiet_nil (hK _ ?_); clear hK K); (refine lex_one (by kernel_rfl) (by kernel_rfl) (by kernel_rfl) (fun K hK => ?_); go_big_quiet_step (fail); refine wpQuiet_nil (hK _ ?_); clear hK K); (refine lex_one (by kernel_rfl) (by kernel_rfl) (by kernel_rfl) (fun K hK => ?_); go_big_quiet_step (fail); refine wpQuiet_nil (hK _ ?_); clear hK K); (refine lex_one (by kernel_rfl) (by kernel_rfl) (by kernel_rfl) (fun K hK => ?_); go_big_quiet_step (fail); refine wpQuiet_nil (hK _ ?_); clear hK K); (refine lex_one (by kernel_rfl) (by kernel_rfl) (by kernel_rfl) (fun K hK => ?_); go_big_quiet_step (fail); refine wpQuiet_nil (hK _ ?_); clear hK K); (refine lex_one (by kernel_rfl) (by kernel_rfl) (by kernel_rfl) (fun K hK => ?_); go_big_quiet_step (fail); refine wpQuiet_nil (hK _ ?_); clear hK K); (refine lex_one (by kernel_rfl) (by kernel_rfl) (by kernel_rfl) (fun K hK => ?_); go_big_quiet_step (fail); refine wpQuiet_nil (hK _ ?_); clear hK K); (refine lex_one (by kernel_rfl) (by kernel_rfl) (by kernel_rfl) (fun K hK => ?_); go_big_quiet_step (fail); refine wpQuiet_nil (hK _ ?_); clear hK K); (refine lex_one (by kernel_rfl) (by kernel_rfl) (by kernel_rfl) (fun K hK => ?_); go_big_quiet_step (fail); refine wpQuiet_nil (hK _ ?_); clear hK K); (refine lex_one (by kernel_rfl) (by kernel_rfl) (by kernel_rfl) (fun K hK => ?_); go_big_quiet_step (fail); refine wpQuiet_nil (hK _ ?_); clear hK K); (refine lex_one (by kernel_rfl) (by kernel_rfl) (by kernel_rfl) (fun K hK => ?_); go_big_quiet_step (fail); refine wpQuiet_nil (hK _ ?_); clear hK K); (refine lex_val (v := .int .i64 (x.length : Int)) (by kernel_rfl) (fun _ _ h => by cases h) (by kernel_rfl) (by kernel_rfl) (fun _ _ => by go_simp) (lex_put (type := 0) (pos := "") (fun K hK => ?_)); go_big_quiet_step (fail); refine wpQuiet_nil (hK _ ?_); clear hK K); (refine lex_val (v := .int .i64 (min (x.length : Int) 4)) (by kernel_rfl) (fun _ _ h => by cases h) (by kernel_rfl) (by kernel_rfl) (fun _ _ => by go_simp) (lex_put (type := 0) (pos := "") (fun K hK => ?_)); go_big_quiet_step (fail); refine wpQuiet_nil (hK _ ?_); clear hK K); (refine lex_val (v := .string ((bs x).extract 0 (min (x.length : Int) 4).toNat)) (by kernel_rfl) (fun _ _ h => by cases h) (by kernel_rfl) (by kernel_rfl) (fun _ _ => by go_simp; intro h; exfalso; have := h (by omega); omega) (lex_put (type := 0) (pos := "") (fun K hK => ?_)); go_big_quiet_step (fail); refine wpQuiet_nil (hK _ ?_); clear hK K); (refine lex_one (by kernel_rfl) (by kernel_rfl) (by kernel_rfl) (fun K hK => ?_); go_big_quiet_step (fail); refine wpQuiet_nil (hK _ ?_); clear hK K); (refine lex_one (by kernel_rfl) (by kernel_rfl) (by kernel_rfl) (fun K hK => ?_); go_big_quiet_step (fail); refine wpQuiet_nil (hK _ ?_); clear hK K)
      refine lex_nil (by kernel_rfl) (by kernel_rfl) (by kernel_rfl) ?_
      intro w5 hw5
      simp only [hideAll]
      go_wp2
      go_ret
      exact ⟨rfl, m.bel.trans (hw5.mono m.bel.size)⟩
    have c4' : (x.take 4 == [116, 109, 112, 45]) = false := by simpa [tmpB] using c4
    have hr : rightN x = true := by
      unfold rightN
      simp [c3]
      omega
    have hlen := hI.len
    have hsz := hI.size
    go_wp2_with fail
    refine wp_region_at (R := GrowR) (by kernel_rfl) (by kernel_rfl) ?_
    (refine lex_one (by kernel_rfl) (by kernel_rfl) (by kernel_rfl) (fun K hK => ?_); go_big_quiet_step (fail); refine wpQuiet_nil (hK _ ?_); clear hK K); (refine lex_one (by kernel_rfl) (by kernel_rfl) (by kernel_rfl) (fun K hK => ?_); go_big_quiet_step (fail); refine wpQuiet_nil (hK _ ?_); clear hK K); (refine lex_one (by kernel_rfl) (by kernel_rfl) (by kernel_rfl) (fun K hK => ?_); go_big_quiet_step (fail); refine wpQuiet_nil (hK _ ?_); clear hK K); (refine lex_one (by kernel_rfl) (by kernel_rfl) (by kernel_rfl) (fun K hK => ?_); go_big_quiet_step (fail); refine wpQuiet_nil (hK _ ?_); clear hK K); (refine lex_val (v := .int .i64 (x.length : Int)) (by kernel_rfl) (fun _ _ h => by cases h) (by kernel_rfl) (by kernel_rfl) (fun _ _ => by go_simp) (lex_put (type := 0) (pos := "") (fun K hK => ?_)); go_big_quiet_step (fail); refine wpQuiet_nil (hK _ ?_); clear hK K); (refine lex_one (by kernel_rfl) (by kernel_rfl) (by kernel_rfl) (fun K hK => ?_); go_big_quiet_step (fail); refine wpQuiet_nil (hK _ ?_); clear hK K); (refine lex_one (by kernel_rfl) (by kernel_rfl) (by kernel_rfl) (fun K hK => ?_); go_big_quiet_step (fail); refine wpQuiet_nil (hK _ ?_); clear hK K); (refine lex_one (by kernel_rfl) (by kernel_rfl) (by kernel_rfl) (fun K hK => ?_); go_big_quiet_step (fail); refine wpQuiet_nil (hK _ ?_); clear hK K); (refine lex_one (by kernel_rfl) (by kernel_rfl) (by kernel_rfl) (fun K hK => ?_); go_big_quiet_step (fail); refine wpQuiet_nil (hK _ ?_); clear hK K); (refine lex_one (by kernel_rfl) (by kernel_rfl) (by kernel_rfl) (fun K hK => ?_); go_big_quiet_step (fail); refine wpQuiet_nil (hK _ ?_); clear hK K); (refine lex_one (by kernel_rfl) (by kernel_rfl) (by kernel_rfl) (fun K hK => ?_); go_big_quiet_step (fail); refine wpQuiet_nil (hK _ ?_); clear hK K); (refine lex_val (v := .int .i64 (y.length : Int)) (by kernel_rfl) (fun _ _ h => by cases h) (by kernel_rfl) (by kernel_rfl) (fun _ _ => by go_simp) (lex_put (type := 0) (pos := "") (fun K hK => ?_)); go_big_quiet_step (fail); refine wpQuiet_nil (hK _ ?_); clear hK K); (refine lex_one (by kernel_rfl) (by kernel_rfl) (by kernel_rfl) (fun K hK => ?_); go_big_quiet_step (fail); refine wpQuiet_nil (hK _ ?_); clear hK K); (refine lex_one (by kernel_rfl) (by kernel_rfl) (by kernel_rfl) (fun K hK => ?_); go_big_quiet_step (fail); refine wpQuiet_nil (hK _ ?_); clear hK K); (refine lex_one (by kernel_rfl) (by kernel_rfl) (by kernel_rfl) (fun K hK => ?_); go_big_quiet_step (fail); refine wpQuiet_nil (hK _ ?_); clear hK K); (refine lex_one (by kernel_rfl) (by kernel_rfl) (by kernel_rfl) (fun K hK => ?_); go_big_quiet_step (fail); refine wpQuiet_nil (hK _ ?_); clear hK K); (refine lex_one (by kernel_rfl) (by kernel_rfl) (by kernel_rfl) (fun K hK => ?_); go_big_quiet_step (fail); refine wpQuiet_nil (hK _ ?_); clear hK K); (refine lex_one (by kernel_rfl) (by kernel_rfl) (by kernel_rfl) (fun K hK => ?_); go_big_quiet_step (fail); refine wpQuiet_nil (hK _ ?_); clear hK K); (refine lex_one (by kernel_rfl) (by kernel_rfl) (by kernel_rfl) (fun K hK => ?_); go_big_quiet_step (fail); refine wpQuiet_nil (hK _ ?_); clear hK K); (refine lex_one (by kernel_rfl) (by kernel_rfl) (by kernel_rfl) (fun K hK => ?_); go_big_quiet_step (fail); refine wpQuiet_nil (hK _ ?_); clear hK K); (refine lex_one (by kernel_rfl) (by kernel_rfl) (by kernel_rfl) (fun K hK => ?_); go_big_quiet_step (fail); refine wpQuiet_nil (hK _ ?_); clear hK K); (refine lex_one (by kernel_rfl) (by kernel_rfl) (by kernel_rfl) (fun K hK => ?_); go_big_quiet_step (fail); refine wpQuiet_nil (hK _ ?_); clear hK K); (refine lex_one (by kernel_rfl) (by kernel_rfl) (by kernel_rfl) (fun K hK => ?_); go_big_quiet_step (fail); refine wpQuiet_nil (hK _ ?_); clear hK K); (refine lex_one (by kernel_rfl) (by kernel_rfl) (by kernel_rfl) (fun K hK => ?_); go_big_quiet_step (fail); refine wpQuiet_nil (hK _ ?_); clear hK K); (refine lex_one (by kernel_rfl) (by kernel_rfl) (by kernel_rfl) (fun K hK => ?_); go_big_quiet_step (fail); refine wpQuiet_nil (hK _ ?_); clear hK K); (refine lex_one (by kernel_rfl) (by kernel_rfl) (by kernel_rfl) (fun K hK => ?_); go_big_quiet_step (fail); refine wpQuiet_nil (hK _ ?_); clear hK K); (refine lex_one (by kernel_rfl) (by kernel_rfl) (by kernel_rfl) (fun K hK => ?_); go_big_quiet_step (fail); refine wpQuiet_nil (hK _ ?_); clear hK K); (refine lex_one (by kernel_rfl) (by kernel_rfl) (by kernel_rfl) (fun K hK => ?_); go_big_quiet_step (fail); refine wpQuiet_nil (hK _ ?_); clear hK K); (refine lex_one (by kernel_rfl) (by kernel_rfl) (by kernel_rfl) (fun K hK => ?_); go_big_quiet_step (fail); refine wpQuiet_nil (hK _ ?_); clear hK K); (refine lex_one (by kernel_rfl) (by kernel_rfl) (by kernel_rfl) (fun K hK => ?_); go_big_quiet_step (fail); refine wpQuiet_nil (hK _ ?_); clear hK K); (refine lex_val (v := .int .i64 (x.length : Int)) (by kernel_rfl) (fun _ _ h => by cases h) (by kernel_rfl) (by kernel_rfl) (fun _ _ => by go_simp) (lex_put (type := 0) (pos := "") (fun K hK => ?_)); go_big_quiet_step (fail); refine wpQuiet_nil (hK _ ?_); clear hK K); (refine lex_val (v := .int .i64 (min (x.length : Int) 4)) (by kernel_rfl) (fun _ _ h => by cases h) (by kernel_rfl) (by kernel_rfl) (fun _ _ => by go_simp) (lex_put (type := 0) (pos := "") (fun K hK => ?_)); go_big_quiet_step (fail); refine wpQuiet_nil (hK _ ?_); clear hK K); (refine lex_val (v := .string ((bs x).extract 0 (min (x.length : Int) 4).toNat)) (by kernel_rfl) (fun _ _ h => by cases h) (by kernel_rfl) (by kernel_rfl) (fun _ _ => by go_simp; intro h; exfalso; have := h (by omega); omega) (lex_put (type := 0) (pos := "") (fun K hK => ?_)); go_big_quiet_step (fail); refine wpQuiet_nil (hK _ ?_); clear hK K); (refine lex_one (by kernel_rfl) (by kernel_rfl) (by kernel_rfl) (fun K hK => ?_); go_big_quiet_step (fail); refine wpQuiet_nil (hK _ ?_); clear hK K); (refine lex_one (by kernel_rfl) (by kernel_rfl) (by kernel_rfl) (fun K hK => ?_); go_big_quiet_step (fail); refine wpQuiet_nil (hK _ ?_); clear hK K)
    refine lex_nil (by kernel_rfl) (by kernel_rfl) (by kernel_rfl) ?_
    intro w5 hw5
    simp only [hideAll]
    have m5 := m.below hw5
    have g5 := (Below.cell hw5 (World.block_lt_of_cell? _ _ g1)).trans g1
    have h5 := (Below.cell hw5 (World.block_lt_of_cell? _ _ g2)).trans g2
    have hok := m.ok.names
    clear m g1 g2 k1 k2
    have k1 := grow_cell g5
    have k2 := grow_cell h5
    go_wp2_with fail
    refine wp_region_led2 (R := GrowR) (by kernel_rfl) (by kernel_rfl) rfl rfl (by kernel_rfl) ?_
    (refine lex_one (by kernel_rfl) (by kernel_rfl) (by kernel_rfl) (fun K hK => ?_); go_big_quiet_step (fail); refine wpQuiet_nil (hK _ ?_); clear hK K); (refine lex_one (by kernel_rfl) (by kernel_rfl) (by kernel_rfl) (fun K hK => ?_); go_big_quiet_step (fail); refine wpQuiet_nil (hK _ ?_); clear hK K); (refine lex_one (by kernel_rfl) (by kernel_rfl) (by kernel_rfl) (fun K hK => ?_); go_big_quiet_step (fail); refine wpQuiet_nil (hK _ ?_); clear hK K); (refine lex_one (by kernel_rfl) (by kernel_rfl) (by kernel_rfl) (fun K hK => ?_); go_big_quiet_step (fail); refine wpQuiet_nil (hK _ ?_); clear hK K); (refine lex_one (by kernel_rfl) (by kernel_rfl) (by kernel_rfl) (fun K hK => ?_); go_big_quiet_step (fail); refine wpQuiet_nil (hK _ ?_); clear hK K); (refine lex_one (by kernel_rfl) (by kernel_rfl) (by kernel_rfl) (fun K hK => ?_); go_big_quiet_step (fail); refine wpQuiet_nil (hK _ ?_); clear hK K); (refine lex_one (by kernel_rfl) (by kernel_rfl) (by kernel_rfl) (fun K hK => ?_); go_big_quiet_step (fail); refine wpQuiet_nil (hK _ ?_); clear hK K); (refine lex_one (by kernel_rfl) (by kernel_rfl) (by kernel_rfl) (fun K hK => ?_); go_big_quiet_step (fail); refine wpQuiet_nil (hK _ ?_); clear hK K); (refine lex_one (by kernel_rfl) (by kernel_rfl) (by kernel_rfl) (fun K hK => ?_); go_big_quiet_step (fail); refine wpQuiet_nil (hK _ ?_); clear hK K)
    refine lex_nil (by kernel_rfl) (by kernel_rfl) (by kernel_rfl) ?_
    intro w6 hw6
    simp only [hideAll]
    have m6 := m5.below hw6
    clear m5 k1 k2
    have q := Lib.hid (m6.saved x y (by omega) (by omega) hr (by omega) (hI.tmp x) (by omega) (by omega))
    go_wp2_with fail
    refine q.out.mono ?_
    rintro e w2 ⟨g, F2, _, hgi, rfl, m2, _⟩
    have hI2 := two_put hx'.out hy'.out hI hok hgi (by omega) c4
    clear q m6 hI
    go_wp2
    go_roundw
    case rel => exact ⟨j + 1, _, _, F2, by omega, by go_num, m2, hI2⟩
    case measure => simp [intOf]; omega
  · have q := Lib.hid (m.crash (by show 5 * j ≤ 500000; omega) fun w' F' ht => HK.out.below (m.reach ht))
    go_wp2_with fail
    refine q.out.mono ?_
    rintro e w2 ⟨F2, rfl, m2, _⟩
    rw [show FsS.crash ⟨N, N, [], fl, 100000, 5 * j, -1, false⟩ ks = ⟨N, N, [], crashFl ks 0 N fl, 100000, 5 * j, -1, false⟩ by
      unfold FsS.crash FsS.crashDir
      simp only [List.length_nil, Nat.zero_add, Nat.mod_one]] at m2
    have hI2 := hI.same (fl' := crashFl ks 0 N fl) fun k hk => crashFl_at ks N 0 fl (hI.still m.ok.names k hk)
    generalize crashFl ks 0 N fl = fl2 at *
    generalize 5 * j = st at *
    clear q m hI
    have HI := Lib.hid hI2
    clear hI2
    generalize hS : (⟨N, N, [], fl2, 100000, st, -1, false⟩ : FsS) = S at *
    have HS := Lib.hid hS
    clear hS
    go_wp2_with fail
    go_loopw [10] (fun i wr => ∃ k : Nat, k ≤ j ∧ i = .int .i64 (k : Int) ∧ Mach W wr G S F2) (fun i _ => j - (intOf i).toNat)
    case atStart => exact ⟨0, Nat.zero_le _, rfl, m2⟩
    clear m2
    obtain ⟨k, hk, rfl, m⟩ := hrel
    rcases (show k < j ∨ k = j by omega) with hkj | rfl
    · obtain ⟨b1, o1, rfl, d1, e1⟩ := HL.out k (l.getD k []) (by rw [List.getD_eq_getElem?_getD, List.getElem?_eq_getElem (by rw [HN.out]; exact hkj)]; rfl)
      have g1 := (Below.cell m.bel (World.block_lt_of_cell? _ _ d1)).trans d1
      obtain ⟨g, hg⟩ := HI.out.has k hkj
      have hv := HI.out.val _ _ hg
      clear e1
      have hxl := (show N.ok by have := m.ok.names; rw [← HS.out] at this; exact this).3 _ (Nm.mem_at hg)
      simp only at hxl
      generalize l.getD k [] = x at *
      have hrd : S.read x = (wantOf l b x j, 0) := by
        rw [← HS.out]
        exact ew_read hg hv
      have HR := Lib.hid hrd
      clear hrd hg hv
      have HG := Lib.hid d1
      clear d1
      go_wp2_with fail
      go_loopw [11, 12] (fun t i wr => ∃ c : Nat, c ≤ j ∧ i = .int .i64 (c : Int) ∧ t = .string (bs (wantOf l b x c)) ∧ Mach W wr G S F2) (fun _ i _ => j - (intOf i).toNat)
      case atStart => exact ⟨0, Nat.zero_le _, rfl, rfl, m⟩
      clear m g1
      obtain ⟨c, hc, rfl, rfl, m⟩ := hrel
      rcases (show c < j ∨ c = j by omega) with hcj | rfl
      · obtain ⟨b3, o3, hp3, d3, e3⟩ := HL.out c (l.getD c []) (by rw [List.getD_eq_getElem?_getD, List.getElem?_eq_getElem (by rw [HN.out]; exact hcj)]; rfl)
        obtain ⟨b4, o4, rfl, d4, e4⟩ := HBX.out c (b.getD c []) (by rw [List.getD_eq_getElem?_getD, List.getElem?_eq_getElem (by rw [HN2.out]; exact hcj)]; rfl)
        cases hp3
        have g1 := (Below.cell m.bel (World.block_lt_of_cell? _ _ HG.out)).trans HG.out
        have g3 := (Below.cell m.bel (World.block_lt_of_cell? _ _ d3)).trans d3
        have g4 := (Below.cell m.bel (World.block_lt_of_cell? _ _ d4)).trans d4
        clear d3 d4 e3 e4
        have k1 := grow_cell g1
        have k3 := grow_cell g3
        by_cases hcx : l.getD c [] = x
        · have hw := wantOf_hit (b := b) hcx
          have hcb : (l.getD c [] == x) = true := by simpa using hcx
          generalize l.getD c [] = lc at *
          generalize b.getD c [] = bc at *
          have HW := Lib.hid hw
          clear hw hcx
          go_wp2_with fail
          refine wp_region_at (R := GrowR) (by kernel_rfl) (by kernel_rfl) ?_
          (refine lex_one (by kernel_rfl) (by kernel_rfl) (by kernel_rfl) (fun K hK => ?_); go_big_quiet_step (fail); refine wpQuiet_nil (hK _ ?_); clear hK K); (refine lex_one (by kernel_rfl) (by kernel_rfl) (by kernel_rfl) (fun K hK => ?_); go_big_quiet_step (fail); refine wpQuiet_nil (hK _ ?_); clear hK K); (refine lex_one (by kernel_rfl) (by kernel_rfl) (by kernel_rfl) (fun K hK => ?_); go_big_quiet_step (fail); refine wpQuiet_nil (hK _ ?_); clear hK K); (refine lex_one (by kernel_rfl) (by kernel_rfl) (by kernel_rfl) (fun K hK => ?_); go_big_quiet_step (fail); refine wpQuiet_nil (hK _ ?_); clear hK K); (refine lex_one (by kernel_rfl) (by kernel_rfl) (by kernel_rfl) (fun K hK => ?_); go_big_quiet_step (fail); refine wpQuiet_nil (hK _ ?_); clear hK K); (refine lex_one (by kernel_rfl) (by kernel_rfl) (by kernel_rfl) (fun K hK => ?_); go_big_quiet_step (fail); refine wpQuiet_nil (hK _ ?_); clear hK K); (refine lex_one (by kernel_rfl) (by kernel_rfl) (by kernel_rfl) (fun K hK => ?_); go_big_quiet_step (fail); refine wpQuiet_nil (hK _ ?_); clear hK K); (refine lex_one (by kernel_rfl) (by kernel_rfl) (by kernel_rfl) (fun K hK => ?_); go_big_quiet_step (fail); refine wpQuiet_nil (hK _ ?_); clear hK K); (refine lex_one (by kernel_rfl) (by kernel_rfl) (by kernel_rfl) (fun K hK => ?_); go_big_quiet_step (fail); refine wpQuiet_nil (hK _ ?_); clear hK K)
          refine lex_nil (by kernel_rfl) (by kernel_rfl) (by kernel_rfl) ?_
          intro w5 hw5
          simp only [hideAll]
          have m5 := m.below hw5
          have g5 := (Below.cell hw5 (World.block_lt_of_cell? _ _ g4)).trans g4
          clear m k1 k3 g1 g3 g4
          go_wp2_with fail
          go_roundw
          case rel => exact ⟨c + 1, by omega, by go_num, by rw [HW.out], m5⟩
          case measure => simp [intOf]; omega
        · have hw := wantOf_miss (b := b) hcx
          have hcb : (l.getD c [] == x) = false := by simpa using hcx
          generalize l.getD c [] = lc at *
          generalize b.getD c [] = bc at *
          have HW := Lib.hid hw
          clear hw hcx
          go_wp2_with fail
          refine wp_region_at (R := GrowR) (by kernel_rfl) (by kernel_rfl) ?_
          (refine lex_one (by kernel_rfl) (by kernel_rfl) (by kernel_rfl) (fun K hK => ?_); go_big_quiet_step (fail); refine wpQuiet_nil (hK _ ?_); clear hK K); (refine lex_one (by kernel_rfl) (by kernel_rfl) (by kernel_rfl) (fun K hK => ?_); go_big_quiet_step (fail); refine wpQuiet_nil (hK _ ?_); clear hK K); (refine lex_one (by kernel_rfl) (by kernel_rfl) (by kernel_rfl) (fun K hK => ?_); go_big_quiet_step (fail); refine wpQuiet_nil (hK _ ?_); clear hK K); (refine lex_one (by kernel_rfl) (by kernel_rfl) (by kernel_rfl) (fun K hK => ?_); go_big_quiet_step (fail); refine wpQuiet_nil (hK _ ?_); clear hK K); (refine lex_one (by kernel_rfl) (by kernel_rfl) (by kernel_rfl) (fun K hK => ?_); go_big_quiet_step (fail); refine wpQuiet_nil (hK _ ?_); clear hK K); (refine lex_one (by kernel_rfl) (by kernel_rfl) (by kernel_rfl) (fun K hK => ?_); go_big_quiet_step (fail); refine wpQuiet_nil (hK _ ?_); clear hK K); (refine lex_one (by kernel_rfl) (by kernel_rfl) (by kernel_rfl) (fun K hK => ?_); go_big_quiet_step (fail); refine wpQuiet_nil (hK _ ?_); clear hK K); (refine lex_one (by kernel_rfl) (by kernel_rfl) (by kernel_rfl) (fun K hK => ?_); go_big_quiet_step (fail); refine wpQuiet_nil (hK _ ?_); clear hK K); (refine lex_one (by kernel_rfl) (by kernel_rfl) (by kernel_rfl) (fun K hK => ?_); go_big_quiet_step (fail); refine wpQuiet_nil (hK _ ?_); clear hK K)
          refine lex_nil (by kernel_rfl) (by kernel_rfl) (by kernel_rfl) ?_
          intro w5 hw5
          simp only [hideAll]
          have m5 := m.below hw5
          have g5 := (Below.cell hw5 (World.block_lt_of_cell? _ _ g4)).trans g4
          clear m k1 k3 g1 g3 g4
          go_wp2_with fail
          go_roundw
          case rel => exact ⟨c + 1, by omega, by go_num, by rw [HW.out], m5⟩
          case measure => simp [intOf]; omega
      · have q := m.read x (by omega)
        rw [HR.out] at q
        have Q := Lib.hid q
        clear q
        have g1 := (Below.cell m.bel (World.block_lt_of_cell? _ _ HG.out)).trans HG.out
        generalize wantOf l b x c = v at *
        go_wp2_with fail
        refine Q.out.mono ?_
        rintro e w3 ⟨rfl, rfl⟩
        clear Q
        go_wp2_with fail
        go_roundw
        case rel => exact ⟨k + 1, by omega, by go_num, m⟩
        case measure => simp [intOf]; omega
    · have hlen := HI.out.len
      have q := Lib.hid m.list
      go_wp2_with fail
      refine q.out.mono ?_
      rintro e w3 ⟨lv, rfl, hsafe, m3, _⟩
      obtain ⟨la, lc, rfl⟩ := hsafe.len
      have hle : S.names.keys.length ≤ k := by
        rw [← HS.out]
        show (List.map (·.1) N).length ≤ k
        rw [List.length_map]
        exact hlen
      clear q m hsafe
      go_wp2
      go_ret
      refine ⟨?_, m3.bel⟩
      simp

theorem DiskTwo_walk {H : Type} {enc : TypeId × Value → H} {d0 d1 d2 : DataW H} {p0 p1 p2 : List MemPlace} (sa0 : Option Addr) (sl0 sc0 : Nat) (sa1 : Option Addr) (sl1 sc1 : Nat) (sa2 : Option Addr) (sl2 sc2 : Nat) (W : World)
    (k0 : DataW.Trod enc Try.prog W 0 (fun _ => true) true 22 (.slice sa0 sl0 sc0) d0 p0) (k1 : DataW.Trod enc Try.prog W 0 (fun _ => true) true 22 (.slice sa1 sl1 sc1) d1 p1) (k2 : DataW.Trod enc Try.prog W 0 (fun _ => true) true 35 (.slice sa2 sl2 sc2) d2 p2) :
    Calls Try.prog 4 #[.slice sa0 sl0 sc0, .slice sa1 sl1 sc1, .slice sa2 sl2 sc2] W fun e w' => e = .returned (.bool true) ∧ Below W.heap.size W w' := by
  obtain ⟨_, k0⟩ := k0
  obtain ⟨_, k1⟩ := k1
  obtain ⟨_, k2⟩ := k2
  obtain ⟨l, h0⟩ := strs_of_trod k0 ⟨_, _, _, rfl⟩
  obtain ⟨b, h1⟩ := strs_of_trod k1 ⟨_, _, _, rfl⟩
  obtain ⟨ks, h⟩ := keep_of_trod k2 ⟨_, _, _, rfl⟩
  exact DiskTwo_lists h0 h1 h
end Go.Proofs.Ytocfaffiifhggaa
