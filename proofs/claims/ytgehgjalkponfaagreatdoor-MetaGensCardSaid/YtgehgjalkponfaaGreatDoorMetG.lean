/- What the package variables of the library hold; the name of a file. -/
import Derived.Test.YtgehgjalkponfaaGreatDoorMetN
import Derived.Test.YtgehgjalkponfaaGreatDoorNmV
import Derived.Test.YtgehgjalkponfaaGreatDoorShelfM
import Derived.Lib.SmallJoins
import Derived.Lib.ItoaMem
import Derived.Lib.AppendIntMem
import Derived.Lib.AtoiErrMem
namespace Go.Proofs.YtgehgjalkponfaaGreatDoor
open Go.RowKit
attribute [local go_sem] bs_toList bs_size

/-- What is asked of the package variables of the library. -/
structure Gl (w : World) : Prop where
  pow : Lib.TabIs Tryz.prog w "internal/strconv.uint64pow10" .u64 Lib.pow10Tab
  syn : ∃ ev, w.cell? ⟨1, 0, none⟩ = some ev ∧ (ev = .nilIface ∨ ∃ te pe, ev = .iface te pe)
  rng : ∃ ev, w.cell? ⟨2, 0, none⟩ = some ev ∧ (ev = .nilIface ∨ ∃ te pe, ev = .iface te pe)
  max : ∃ m, w.cell? ⟨0, 0, none⟩ = some (.int .i64 m)
theorem gPow : Tryz.prog.globalNamed "internal/strconv.uint64pow10" = some 3 := by kernel_rfl
theorem Gl.below {w w' : World} (h : Gl w) (hb : Below w.heap.size w w') : Gl w' := by
  obtain ⟨h1, ⟨e1, h2, h2'⟩, ⟨e2, h3, h3'⟩, m, h4⟩ := h
  have f : ∀ {p : Addr} {v : Value}, w.cell? p = some v → w'.cell? p = some v := fun h => (Below.cell hb (World.block_lt_of_cell? _ _ h)).trans h
  exact ⟨Joins.tab_stays gPow h1 hb (Nat.le_refl _), ⟨e1, f h2, h2'⟩, ⟨e2, f h3, h3'⟩, m, f h4⟩
theorem bs_arr (l : List UInt8) : (⟨l.toArray⟩ : ByteArray) = bs l := rfl
theorem repeat_one (b : UInt8) : ∀ n, Lib.repeatL [b] n = List.replicate n b
  | 0 => rfl
  | n + 1 => by
    rw [List.replicate_succ, ← repeat_one b n]
    rfl

set_option maxRecDepth 100000 in
set_option maxHeartbeats 2000000 in
theorem Name_any (kind : List UInt8) (n : Int) (w : World) (hG : Gl w) (hk : kind.length ≤ 1000000) (h0 : -9223372036854775808 ≤ n) (h1 : n ≤ 9223372036854775807) :
    Calls Tryz.prog 21 #[.string (bs kind), .int .i64 n] w fun e w' => e = .returned (.string (bs (nameB kind n))) ∧ Below w.heap.size w w' := by
  by_cases hn0 : n < 0
  · have f1 : decide (n < 0) = true := by simpa using hn0
    have hN : nameB kind n = [] := by unfold nameB; rw [if_pos (.inl hn0)]
    rw [hN]
    go_enter Tryz.func21, Tryz.ntmps21
    go_wp2
    go_ret
    exact ⟨rfl, Below.refl _ _⟩
  · have f1 : decide (n < 0) = false := by simpa using hn0
    by_cases hn1 : 999999 < n
    · have f2 : decide (999999 < n) = true := by simpa using hn1
      have hN : nameB kind n = [] := by unfold nameB; rw [if_pos (.inr hn1)]
      rw [hN]
      go_enter Tryz.func21, Tryz.ntmps21
      go_wp2
      go_ret
      exact ⟨rfl, Below.refl _ _⟩
    · have f2 : decide (999999 < n) = false := by simpa using hn1
      have hN : nameB kind n = kind ++ 45 :: six n.toNat := by unfold nameB; rw [if_neg (by omega)]
      obtain ⟨hl, hs⟩ := six_itoa n.toNat (by omega)
      have hi : Lib.itoa n = Lib.decDigits n.toNat := by
        unfold Lib.itoa
        rw [if_neg hn0]
      have q := Tryz.strconv_Itoa n h0 h1 w hG.pow
      rw [hi, bs_arr] at q
      have HN := Lib.hid (show nameB kind n = (kind ++ [45]) ++ (List.replicate (6 - (Lib.decDigits n.toNat).length) 48 ++ Lib.decDigits n.toNat) by rw [hN, hs]; simp)
      generalize Lib.decDigits n.toNat = D at *
      have Q := Lib.hid q
      clear q hs hN hi
      have hsub : (6 : Int) - (D.length : Int) = ((6 - D.length : Nat) : Int) := by omega
      have QR := Lib.hid (fun W => Tryz.strings_Repeat (bs [48]) (6 - D.length) W (by omega) (by rw [bs_size]; simp; omega))
      rw [show (bs [48]).data.toList = [48] from rfl, repeat_one, bs_arr] at QR
      go_enter Tryz.func21, Tryz.ntmps21
      go_wp2_with fail
      refine Q.out.mono ?_
      rintro e w1 ⟨rfl, k, os, rfl⟩
      have hb1 := Lib.below_grow w.heap.size w (Nat.le_refl _) k os
      generalize Go.Sort.grow (w.drewN k) os = w1 at *
      go_wp2_with fail
      refine (QR.out _).mono ?_
      rintro e w2 ⟨rfl, hb2⟩
      go_wp2_with fail
      go_ret
      refine ⟨?_, hb1.trans (hb2.mono hb1.size)⟩
      rw [HN.out, show (⟨#[45]⟩ : ByteArray) = bs [45] from rfl, bs_append, bs_append, bs_append, ← List.append_assoc]
      rfl
def tmpK : List UInt8 := [116, 109, 112, 45]
set_option maxRecDepth 100000 in
theorem Temp_any (name : List UInt8) (w : World) (hl : name.length ≤ 1000000) :
    Calls Tryz.prog 23 #[.string (bs name)] w fun e w' => e = .returned (.string (bs (tmpK ++ name))) ∧ w' = w := by
  go_enter Tryz.func23, Tryz.ntmps23
  go_wp2
  go_ret
  refine ⟨?_, rfl⟩
  rw [← bs_append]
  rfl
/-- What Atoi answers. -/
theorem Atoi_any (s : List UInt8) (w : World) (hG : Gl w) (hl : s.length ≤ 1000000) :
    Calls Tryz.prog 45 #[.string (bs s)] w fun e w' => Below w.heap.size w w' ∧ match Lib.atoiAll s with
      | .ok v => e = .returned (.tuple #[.int .i64 v, .nilIface])
      | _ => ∃ v te pe, e = .returned (.tuple #[.int .i64 v, .iface te pe]) := by
  have hd : (bs s).data.toList = s := bs_data s
  rcases ha : Lib.atoiAll s with v | _ | _
  · refine (Tryz.strconv_Atoi_ok (bs s) (by rw [bs_size]; omega) v (by rw [hd]; exact ha) w).mono fun e w' ⟨h1, h2⟩ => ⟨?_, h1⟩
    rcases h2 with rfl | ⟨t, rfl⟩
    · exact Below.refl _ _
    · exact Joins.below_bytesWorld _ _ _ _ (Nat.le_refl _)
  · obtain ⟨ev, h1, h2⟩ := hG.syn
    exact (Tryz.strconv_Atoi_syntax (bs s) (by rw [bs_size]; omega) (by rw [hd]; exact ha) ev w h1 h2).mono fun e w' ⟨N, h3, _, _, h4⟩ => ⟨h4, _, _, _, h3⟩
  · obtain ⟨ev, h1, h2⟩ := hG.rng
    exact (Tryz.strconv_Atoi_range (bs s) (by rw [bs_size]; omega) (by rw [hd]; exact ha) ev w h1 h2).mono fun e w' ⟨N, h3, _, _, h4⟩ => ⟨h4, _, _, _, h3⟩
theorem cut_len (s : List UInt8) : (Lib.cut s [45]).1.length ≤ s.length ∧ (Lib.cut s [45]).2.1.length ≤ s.length := by
  unfold Lib.cut
  split
  · simp
    omega
  · simp
def parseV (x : List UInt8 × Int × Bool) : Value := .tuple #[.string (bs x.1), .int .i64 x.2.1, .bool x.2.2]
set_option maxRecDepth 100000 in
set_option maxHeartbeats 2000000 in
theorem Parse_any (name : List UInt8) (w : World) (hG : Gl w) (hl : name.length ≤ 1000000) :
    Calls Tryz.prog 19 #[.string (bs name)] w fun e w' => e = .returned (parseV (parseB name)) ∧ Below w.heap.size w w' := by
  obtain ⟨m, hm⟩ := hG.max
  have q := Tryz.strings_Cut (bs name) (bs [45]) m w (by rw [bs_size]; omega) hm
  rw [bs_data, bs_data, bs_arr, bs_arr] at q
  have hcl := cut_len name
  have HP := Lib.hid (show parseB name = match Lib.atoiAll (Lib.cut name [45]).2.1 with
    | .ok n => if ((Lib.cut name [45]).1 = walK ∨ (Lib.cut name [45]).1 = blockK) ∧ nameB (Lib.cut name [45]).1 n = name then ((Lib.cut name [45]).1, n, true) else ([], 0, false)
    | _ => ([], 0, false) from rfl)
  generalize parseB name = PB at *
  obtain ⟨⟨K, S, fd⟩, hc⟩ : ∃ x, Lib.cut name [45] = x := ⟨_, rfl⟩
  rw [hc] at q hcl HP
  simp only at q hcl HP
  have Q := Lib.hid q
  have QA := Lib.hid (fun W (hW : Below w.heap.size w W) => Atoi_any S W (hG.below hW) (by omega))
  clear q hm
  go_enter Tryz.func19, Tryz.ntmps19
  go_wp2_with fail
  refine Q.out.mono ?_
  rintro e w1 ⟨rfl, k, rfl⟩
  have hb1 : Below w.heap.size w (w.drewN k) := ⟨rfl, rfl, rfl, Nat.le_refl _, fun _ _ => rfl⟩
  generalize w.drewN k = w1 at *
  go_wp2_with fail
  refine (QA.out w1 hb1).mono ?_
  rintro e w2 ⟨hb2, h⟩
  have hB2 := hb1.trans (hb2.mono hb1.size)
  rcases ha : Lib.atoiAll S with n | _ | _
  rotate_left 1
  · rw [ha] at h
    obtain ⟨v, te, pe, rfl⟩ := h
    have HY := Lib.hid (show PB = ([], 0, false) by rw [HP.out, ha])
    clear QA Q HP ha
    go_wp2_with fail
    go_ret3
    exact ⟨by rw [HY.out]; rfl, hB2⟩
  · rw [ha] at h
    obtain ⟨v, te, pe, rfl⟩ := h
    have HY := Lib.hid (show PB = ([], 0, false) by rw [HP.out, ha])
    clear QA Q HP ha
    go_wp2_with fail
    go_ret3
    exact ⟨by rw [HY.out]; rfl, hB2⟩
  · rw [ha] at h
    subst h
    by_cases hk1 : K = [119, 97, 108]
    · subst hk1
      have hbd := Lib.atoiAll_bounds ha
      have QN := Lib.hid (Name_any [119, 97, 108] n w2 (hG.below hB2) (by simp) hbd.1 hbd.2)
      have HX := Lib.hid (show PB = if nameB [119, 97, 108] n = name then ([119, 97, 108], n, true) else ([], 0, false) by rw [HP.out, ha]; simp [walK, blockK])
      clear QA Q HP ha
      go_wp2_with fail
      refine QN.out.mono ?_
      rintro e w3 ⟨rfl, hb3⟩
      have hB3 := hB2.trans (hb3.mono hB2.size)
      by_cases hz : nameB [119, 97, 108] n = name
      · have HY := Lib.hid (show PB = ([119, 97, 108], n, true) by rw [HX.out, if_pos hz])
        have f1 : (nameB [119, 97, 108] n == name) = true := by simpa using hz
        clear hz HX
        go_wp2_with fail
        go_ret3
        exact ⟨by rw [HY.out]; rfl, hB3⟩
      · have HY := Lib.hid (show PB = ([], 0, false) by rw [HX.out, if_neg hz])
        have f1 : (nameB [119, 97, 108] n == name) = false := by simpa using hz
        clear hz HX
        go_wp2_with fail
        go_ret3
        exact ⟨by rw [HY.out]; rfl, hB3⟩
    · by_cases hk2 : K = [98, 108, 111, 99, 107]
      · subst hk2
        have hbd := Lib.atoiAll_bounds ha
        have QN := Lib.hid (Name_any [98, 108, 111, 99, 107] n w2 (hG.below hB2) (by simp) hbd.1 hbd.2)
        have HX := Lib.hid (show PB = if nameB [98, 108, 111, 99, 107] n = name then ([98, 108, 111, 99, 107], n, true) else ([], 0, false) by rw [HP.out, ha]; simp [walK, blockK])
        clear QA Q HP ha
        go_wp2_with fail
        refine QN.out.mono ?_
        rintro e w3 ⟨rfl, hb3⟩
        have hB3 := hB2.trans (hb3.mono hB2.size)
        by_cases hz : nameB [98, 108, 111, 99, 107] n = name
        · have HY := Lib.hid (show PB = ([98, 108, 111, 99, 107], n, true) by rw [HX.out, if_pos hz])
          have f1 : (nameB [98, 108, 111, 99, 107] n == name) = true := by simpa using hz
          clear hz HX
          go_wp2_with fail
          go_ret3
          exact ⟨by rw [HY.out]; rfl, hB3⟩
        · have HY := Lib.hid (show PB = ([], 0, false) by rw [HX.out, if_neg hz])
          have f1 : (nameB [98, 108, 111, 99, 107] n == name) = false := by simpa using hz
          clear hz HX
          go_wp2_with fail
          go_ret3
          exact ⟨by rw [HY.out]; rfl, hB3⟩
      · have HY := Lib.hid (show PB = ([], 0, false) by
          rw [HP.out, ha]
          simp only
          rw [if_neg fun h => h.1.elim hk1 hk2])
        have f1 : (K == [119, 97, 108]) = false := by simpa using hk1
        have f2 : (K == [98, 108, 111, 99, 107]) = false := by simpa using hk2
        clear QA Q HP ha hk1 hk2
        go_wp2_with fail
        go_ret3
        exact ⟨by rw [HY.out]; rfl, hB2⟩
end Go.Proofs.YtgehgjalkponfaaGreatDoor
