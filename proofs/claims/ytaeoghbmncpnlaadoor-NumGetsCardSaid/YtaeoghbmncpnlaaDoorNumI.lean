/- The walk of the closure in Cursor.Fixed. -/
import Derived.Test.YtaeoghbmncpnlaaDoorNumH
namespace Go.Proofs.YtaeoghbmncpnlaaDoor
open Go.RowKit

theorem dropWhile_nil_iff (l : List UInt8) : l.dropWhile (· == 0) = [] ↔ l.all (· == 0) = true := by
  induction l with
  | nil => simp
  | cons b r ih =>
    rw [List.dropWhile_cons]
    by_cases h : (b == 0) = true
    · rw [if_pos h, ih]; simp [h]
    · rw [if_neg h]; simp [h]
theorem dropWhile_all (l : List UInt8) (h : l.all (· == 0) = true) : l.dropWhile (· == 0) = [] := (dropWhile_nil_iff l).2 h
theorem trim0 (l : List UInt8) : Lib.trimB l 0 = [] ↔ l.all (· == 0) = true := by
  unfold Lib.trimB Lib.trimLeftB Lib.trimRightB
  rw [dropWhile_nil_iff]
  constructor
  · intro h
    rw [List.all_reverse] at h
    rw [← List.all_reverse, ← List.takeWhile_append_dropWhile (p := fun x : UInt8 => x == 0) (l := l.reverse), List.all_append, h, List.all_takeWhile]
    rfl
  · intro h
    rw [List.all_reverse, dropWhile_all _ (by rw [List.all_reverse]; exact h)]
    rfl

theorem trim_all (l : List UInt8) (h : l.all (· == 0) = true) (hs : l.length ≤ 1099511627776) (w : World) :
    Calls Tryd.prog 42 #[.string (bs l), .string ⟨#[0]⟩] w fun e w' => e = .returned (.string ⟨#[]⟩) ∧ ∃ n, w' = w.drewN n := by
  refine (Tryd.strings_Trim_one (bs l) 0 (by decide) w (by rw [bs_size]; omega)).mono ?_
  rintro e w' ⟨rfl, hw⟩
  rw [bs_data, (trim0 l).2 h]
  exact ⟨rfl, hw.elim (fun h => ⟨0, h⟩) (fun h => ⟨1, h⟩)⟩
theorem trim_not (l : List UInt8) (h : l.all (· == 0) = false) (hs : l.length ≤ 1099511627776) (w : World) :
    Calls Tryd.prog 42 #[.string (bs l), .string ⟨#[0]⟩] w fun e w' => (∃ b r, e = .returned (.string (bs (b :: r)))) ∧ ∃ n, w' = w.drewN n := by
  refine (Tryd.strings_Trim_one (bs l) 0 (by decide) w (by rw [bs_size]; omega)).mono ?_
  rintro e w' ⟨rfl, hw⟩
  refine ⟨?_, hw.elim (fun h => ⟨0, h⟩) (fun h => ⟨1, h⟩)⟩
  rw [bs_data]
  cases hx : Lib.trimB l 0 with
  | nil => rw [(trim0 l).1 hx] at h; cases h
  | cons b r => exact ⟨b, r, rfl⟩

set_option maxRecDepth 100000 in
set_option maxHeartbeats 400000 in
theorem Fixed1_any (l : List UInt8) (k : Int) (N : Nat) (hk : Num.szN k = N) (p : Addr) (w : World) (_hl : l.length ≤ 1099511627776) (hp : w.cell? p = some (.int .i64 (N : Int))) :
    Calls Tryd.prog 41 #[.string (bs l), .pointer (some p)] w fun e w' => e = .returned (.tuple #[.string (bs (gsval (Num.getFixed l k))), .int .i64 (gcnt (Num.getFixed l k))]) ∧ Below w.heap.size w w' := by
  have hz := bs_size l
  have hN : N ≤ 255 := by have := Num.szN_le k; omega
  by_cases h0 : l.length ≤ N
  · have hn : Hid (Num.getFixed l k = none) := by show _ = _; unfold Num.getFixed; rw [hk, List.getElem?_eq_none h0]
    have hd : decide ((l.length : Int) ≤ (N : Int)) = true := by simp; omega
    clear hk
    go_enter Tryd.func41, Tryd.ntmps41
    go_wp2
    go_quiet (fail)
    go_wp2
    go_ret2
    exact ⟨by rw [hn.out]; rfl, below_drewN (Below.refl _ _) _⟩
  · obtain ⟨b, hb⟩ : ∃ b, l[N]? = some b := ⟨l[N]'(by omega), List.getElem?_eq_getElem (by omega)⟩
    have hix := fun k W => run_index_bs (P := Tryd.prog) 9 Tryd.underlying9 l N b hb k W
    have hbl : b.toNat < 256 := UInt8.toNat_lt b
    have hd : decide ((l.length : Int) ≤ (N : Int)) = false := by simp; omega
    have h0' : (N : Int) < (l.length : Int) := by omega
    by_cases h1 : N < b.toNat
    · have hn : Hid (Num.getFixed l k = none) := by show _ = _; unfold Num.getFixed; rw [hk, hb]; simp only []; rw [if_pos (.inl h1)]
      clear hk hb
      go_enter Tryd.func41, Tryd.ntmps41
      go_wp2
      go_quiet (fail)
      go_wp2
      go_ret2
      exact ⟨by rw [hn.out]; rfl, below_drewN (Below.refl _ _) _⟩
    · have hx3 := bs_extract l 0 b.toNat
      have hx4 := bs_extract l b.toNat N
      rw [show (l.drop b.toNat).take (N - b.toNat) = (l.take N).drop b.toNat from by rw [List.take_drop]; congr 2; omega] at hx4
      have h1' : (b.toNat : Int) ≤ (N : Int) := by omega
      have hlen : ((l.take N).drop b.toNat).length ≤ 1099511627776 := by rw [List.length_drop, List.length_take]; omega
      have hTz : (bs ((l.drop 0).take (b.toNat - 0))).size = b.toNat := by rw [bs_size]; simp; omega
      have HT := Lib.hid (show (l.drop 0).take (b.toNat - 0) = l.take b.toNat from by simp)
      generalize (l.drop 0).take (b.toNat - 0) = T at hx3 hTz HT
      cases ha : ((l.take N).drop b.toNat).all (· == 0) with
      | false =>
        have hn : Hid (Num.getFixed l k = none) := by show _ = _; unfold Num.getFixed; rw [hk, hb]; simp only []; rw [if_pos (.inr ha)]
        have hc := Lib.hid (fun W => trim_not _ ha hlen W)
        generalize (l.take N).drop b.toNat = M at hc hx4
        clear hk hb ha hlen h1
        go_enter Tryd.func41, Tryd.ntmps41
        go_wp2
        go_quiet (fail)
        go_wp2_with (go_at_call 42; refine (hc.out _).mono ?_; rintro e w' ⟨⟨b', r', rfl⟩, nq', rfl⟩; have hne : (bs (b' :: r')).toList = b' :: r' := bs_toList _)
        go_ret2
        exact ⟨by rw [hn.out]; rfl, below_drewN (Below.refl _ _) _⟩
      | true =>
        have hn : Hid (Num.getFixed l k = some (l.take b.toNat, N + 1)) := by show _ = _; unfold Num.getFixed; rw [hk, hb]; simp only []; rw [if_neg (by rintro (h | h); exact h1 h; rw [ha] at h; cases h)]
        have hc := Lib.hid (fun W => trim_all _ ha hlen W)
        generalize (l.take N).drop b.toNat = M at hc hx4
        clear hk hb ha hlen h1
        go_enter Tryd.func41, Tryd.ntmps41
        go_wp2
        go_quiet (fail)
        go_wp2_with (go_at_call 42; refine (hc.out _).mono ?_; rintro e w' ⟨rfl, nq', rfl⟩)
        go_quiet (fail)
        go_wp2
        go_ret2
        exact ⟨by rw [hn.out, HT.out]; rfl, below_drewN (below_drewN (Below.refl _ _) _) _⟩
end Go.Proofs.YtaeoghbmncpnlaaDoor
