/- The law IndexBack: the walk. -/
import Derived.Test.YtpeahjocimhneaaGreatDoorGM
namespace Go.Proofs.YtpeahjocimhneaaGreatDoor
open Go.RowKit Go.Maps Go.WideMaps Go.ChangeShapes Go.WideShapes Go.Deep
attribute [local go_sem] bs_toList bs_size

set_option maxRecDepth 100000 in
set_option maxHeartbeats 1000000 in
theorem IndexBack_walk {H : Type} {enc : TypeId × Value → H} {d1 : DataW H} {p1 : List MemPlace} (sa1 : Option Addr) (sl1 sc1 : Nat) (s : List UInt8) (g : Int) (W : World)
    (h1 : DataW.Trod enc Tryz.prog W 0 (fun _ => true) true 22 (.slice sa1 sl1 sc1) d1 p1) (hs : s.length ≤ maxLen)
    (g1 : -9223372036854775808 ≤ g) (g2 : g ≤ 9223372036854775807) :
    Calls Tryz.prog 5 #[.slice sa1 sl1 sc1, .string (bs s), .int .i64 g] W fun e w' => e = .returned (.bool true) ∧ Below W.heap.size W w' := by
  obtain ⟨_, h1⟩ := h1
  obtain ⟨L, hL⟩ := ents_of_trod h1
  clear h1
  have q0 := Lib.hid (works_any W)
  unfold maxLen at hs
  go_enter Tryz.func5, Tryz.ntmps5
  go_wp2_with fail
  refine q0.out.mono ?_
  rintro e W1 ⟨rfl, b1⟩
  have hL1 := hL.below b1
  have q1 := Lib.hid (few12_any hL1)
  clear q0 hL
  go_wp2_with fail
  refine q1.out.mono ?_
  rintro e W2 ⟨B1, rfl, b2, hf1⟩
  have HF1 := Lib.hid hf1
  clear hf1 q1
  have c2 := b1.trans (b2.mono b1.size)
  cases B1 with
  | false =>
    go_wp2_with fail
    go_ret
    exact ⟨rfl, c2⟩
  | true =>
    have hL2 := (hL1.below b2).at (HF1.out rfl)
    clear hL1 HF1 b1 b2
    by_cases hbig : 4000 < s.length
    · have f1 : decide (4000 < s.length) = true := by simpa using hbig
      have f1' : decide ((4000 : Int) < (s.length : Int)) = true := by simp; omega
      go_wp2_with fail
      go_ret
      exact ⟨rfl, c2⟩
    have f1 : decide (4000 < s.length) = false := by simpa using hbig
    have f1' : decide ((4000 : Int) < (s.length : Int)) = false := by simp; omega
    have q3 := Lib.hid (IPut_any L _ g W2 hL2 g1 g2)
    have q4 := Lib.hid (fun W' => IGet_any (putI L g).1 g W' (put_small L g) g1 g2)
    have q5 := Lib.hid (fun W' h => IValid_any L (.slice sa1 sl1 sc1) g W' h g1 g2)
    have q6 := Lib.hid (fun W' => IGet_any s g W' (by omega) g1 g2)
    have HP := Lib.hid (fun h => getI_some (s := s) (g := g) h)
    have HN := Lib.hid (fun h => getI_none (s := s) (g := g) h)
    generalize getI s g = X2 at *
    obtain ⟨E2, F2⟩ := X2
    simp only at q6 HP HN
    unfold putIV at q3
    rw [put_err] at q3
    have HG := Lib.hid (fun h : validI L g = 0 => getI_put h)
    have HE := Lib.hid (fun h => put_none (l := L) (g := g) h)
    have hSS := (sameI_at hL2 hL2).2 rfl
    have qS := Lib.hid (fun u W' (h : EntsAt W' (.slice sa1 sl1 sc1) L) (h' : EntsAt W' u L) => ISame_any L L (.slice sa1 sl1 sc1) u W' h h')
    rw [hSS] at qS
    clear hSS hbig
    generalize (putI L g).1 = PA at *
    generalize validI L g = V at *
    go_wp2_with fail
    refine q3.out.mono ?_
    rintro e W4 ⟨rfl, b4⟩
    have hL4 := hL2.below b4
    have c4 := c2.trans (b4.mono c2.size)
    clear q3 hL2 b4 c2
    go_wp2_with fail
    refine (q4.out _).mono ?_
    rintro e W5 ⟨vm, rfl, hM5, b5⟩
    have hL5 := hL4.below b5
    have c5 := c4.trans (b5.mono c4.size)
    obtain ⟨ma, mc, rfl, _⟩ := id hM5
    clear q4 hL4 b5 c4
    by_cases hV : V = 0
    · have hG := HG.out hV
      rw [hG] at hM5 ⊢
      subst hV
      have f2 : ((0 : Int) != 0) = false := rfl
      have f3 : ((0 : Int) == 0) = true := rfl
      clear HG HE hG
      simp only at hM5
      go_wp2_with fail
      refine (q5.out _ hL5).mono ?_
      rintro e W6 ⟨rfl, b6⟩
      have hL6 := hL5.below b6
      have hM6 := hM5.below b6
      have c6 := c5.trans (b6.mono c5.size)
      clear q5 hL5 hM5 b6 c5
      go_wp2_with fail
      refine (qS.out _ _ hL6 hM6).mono ?_
      rintro e W7 ⟨rfl, b7⟩
      have c7 := c6.trans (b7.mono c6.size)
      clear qS hL6 hM6 b7 c6
      go_wp2_with fail
      refine (q6.out _).mono ?_
      rintro e W8 ⟨vn, rfl, hN8, b8⟩
      have c8 := c7.trans (b8.mono c7.size)
      obtain ⟨na, nc, rfl, _⟩ := id hN8
      clear q6 b8
      by_cases hF : F2 = 0
      · have hp := HP.out hF
        subst hF
        have f8 : ((0 : Int) != 0) = false := rfl
        have q9 := Lib.hid (IPut_any E2 _ g W8 hN8 g1 g2)
        unfold putIV at q9
        rw [hp.1] at q9
        simp only at q9
        go_wp2_with fail
        refine q9.out.mono ?_
        rintro e W9 ⟨rfl, b9⟩
        have q10 := Lib.hid (IValid_any E2 _ g W9 (hN8.below b9) g1 g2)
        rw [hp.2] at q10
        have c9 := c8.trans (b9.mono c8.size)
        have f9 : (s == s) = true := by simp
        clear q9 b9 hN8 hp HP HN
        go_wp2_with fail
        refine q10.out.mono ?_
        rintro e W10 ⟨rfl, b10⟩
        have c10 := c9.trans (b10.mono c9.size)
        clear q10 b10
        go_wp2_with fail
        go_ret
        exact ⟨rfl, c10⟩
      · have f8 : (F2 != 0) = true := by simpa using hF
        have hn := HN.out hF
        subst hn
        clear HP HN hF hN8
        go_wp2_with fail
        go_ret
        exact ⟨rfl, c8⟩
    · have hE := HE.out hV
      subst hE
      have f2 : (V != V) = false := by simp
      have f3 : (V == 0) = false := by simpa using hV
      have f4 : (V != 0) = true := by simpa using hV
      generalize getI [] g = X1 at *
      clear HG HE hV qS hM5
      go_wp2_with fail
      refine (q5.out _ hL5).mono ?_
      rintro e W6 ⟨rfl, b6⟩
      have c6 := c5.trans (b6.mono c5.size)
      clear q5 hL5 b6 c5
      go_wp2_with fail
      refine (q6.out _).mono ?_
      rintro e W8 ⟨vn, rfl, hN8, b8⟩
      have c8 := c6.trans (b8.mono c6.size)
      obtain ⟨na, nc, rfl, _⟩ := id hN8
      clear q6 b8
      by_cases hF : F2 = 0
      · have hp := HP.out hF
        subst hF
        have f8 : ((0 : Int) != 0) = false := rfl
        have q9 := Lib.hid (IPut_any E2 _ g W8 hN8 g1 g2)
        unfold putIV at q9
        rw [hp.1] at q9
        simp only at q9
        go_wp2_with fail
        refine q9.out.mono ?_
        rintro e W9 ⟨rfl, b9⟩
        have q10 := Lib.hid (IValid_any E2 _ g W9 (hN8.below b9) g1 g2)
        rw [hp.2] at q10
        have c9 := c8.trans (b9.mono c8.size)
        have f9 : (s == s) = true := by simp
        clear q9 b9 hN8 hp HP HN
        go_wp2_with fail
        refine q10.out.mono ?_
        rintro e W10 ⟨rfl, b10⟩
        have c10 := c9.trans (b10.mono c9.size)
        clear q10 b10
        go_wp2_with fail
        go_ret
        exact ⟨rfl, c10⟩
      · have f8 : (F2 != 0) = true := by simpa using hF
        have hn := HN.out hF
        subst hn
        clear HP HN hF hN8
        go_wp2_with fail
        go_ret
        exact ⟨rfl, c8⟩
end Go.Proofs.YtpeahjocimhneaaGreatDoor
