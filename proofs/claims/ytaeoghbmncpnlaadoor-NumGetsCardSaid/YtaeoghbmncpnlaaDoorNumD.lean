/- The walks of num.Fixed and of the reference's. -/
import Derived.Test.YtaeoghbmncpnlaaDoorNumC
import Derived.Test.YtaeoghbmncpnlaaDoorShelf
import Derived.Deep.RegionWith
namespace Go.Proofs.YtaeoghbmncpnlaaDoor
open Go.RowKit

theorem repeat0 (c : Nat) : Lib.repeatL [0] c = List.replicate c 0 := by
  induction c with
  | zero => rfl
  | succ c ih => simp [Lib.repeatL, ih, List.replicate_succ]

theorem rep0_any (c : Nat) (hc : c ≤ 255) (w : World) :
    Calls Tryd.prog 35 #[.string ⟨#[0]⟩, .int .i64 (c : Int)] w fun e w' => e = .returned (.string (bs (List.replicate c 0))) ∧ Below w.heap.size w w' :=
  (Tryd.strings_Repeat ⟨#[0]⟩ c w (by omega) (by show 1 * c ≤ _; omega)).mono fun e w' ⟨h1, h2⟩ => ⟨by rw [h1]; show _ = Ending.returned (Value.string (bs (List.replicate c 0))); rw [← repeat0]; rfl, h2⟩

set_option maxRecDepth 100000 in
set_option maxHeartbeats 400000 in
theorem num_Fixed_any (t : List UInt8) (k : Int) (w : World) (h1 : t.length ≤ 1099511627776) (hk1 : -9223372036854775808 ≤ k) (hk2 : k ≤ 9223372036854775807) :
    Calls Tryd.prog 17 #[.string (bs t), .int .i64 k] w fun e w' => e = .returned (.string (bs (Num.fixed t k))) ∧ Below w.heap.size w w' := by
  have hz := bs_size t
  obtain ⟨K, hK⟩ : ∃ K : Nat, Num.szI k = K := ⟨Num.szN k, by unfold Num.szN Num.szI; omega⟩
  have hK2 : K ≤ 255 := by have := Num.szN_le k; unfold Num.szN at this; omega
  go_enter Tryd.func17, Tryd.ntmps17
  go_wp2_with (go_at_call 34; refine (num_size_any _ _ hk1 hk2).mono ?_; rw [hK]; rintro e w' ⟨rfl, rfl⟩)
  have hext : (bs t).extract 0 (min (t.length : Int) (K : Int)).toNat = bs (t.take K) := by
    rw [bs_extract]
    congr 1
    rcases Nat.le_total t.length K with h | h
    · rw [show (min (t.length : Int) (K : Int)).toNat - 0 = t.length from by omega, List.take_of_length_le h]; simp
    · rw [show (min (t.length : Int) (K : Int)).toNat - 0 = K from by omega]; simp
  rw [hext]
  obtain ⟨q, hq⟩ : ∃ q, t.take K = q := ⟨_, rfl⟩
  rw [hq]
  have hql : q.length ≤ K := by rw [← hq]; simp; omega
  have Hq := Lib.hid hq
  have HK := Lib.hid hK
  have hs := bs_size q
  have hwr : IntKind.i64.wrap ((K : Int) - (q.length : Int)) = ((K - q.length : Nat) : Int) := by rw [IntKind.wrap_i64]; omega
  clear hq hK hext hz h1
  have hrep := fun W => rep0_any (K - q.length) (by omega) W
  have hrl : (List.replicate (K - q.length) (0 : UInt8)).length = K - q.length := by simp
  generalize hr : List.replicate (K - q.length) (0 : UInt8) = r at hrl hrep
  have Hr := Lib.hid hr
  have ha1 := fun W => run_add_bs (P := Tryd.prog) q r (by omega) W
  have ha2 := fun W => run_add_bs (P := Tryd.prog) (q ++ r) [UInt8.ofNat q.length] (by simp; omega) W
  have hcv := fun g W hc => run_conv_one (P := Tryd.prog) 47 9 5 Tryd.underlying47 Tryd.underlying5 Tryd.underlying9 g 1 (IntKind.u8.wrap (q.length : Int)) (UInt8.ofNat q.length)
    (by rw [Num.ofNat_toNat _ (by omega), IntKind.wrap_u8']; omega) W hc
  clear hr hrl
  go_region_with (go_at_call 35; refine (hrep _).mono ?_; rintro e w' ⟨rfl, hb⟩; first | (have hcell := hb.cell (p := ⟨w.heap.size, 0, none⟩) (lt_alloc w _)) | skip)
  all_goals go_wp2
  all_goals go_ret
  all_goals refine ⟨?_, ?_⟩
  all_goals first
    | (show Ending.returned (Value.string (bs (q ++ (r ++ [UInt8.ofNat q.length])))) = _
       rw [← Hr.out, ← Hq.out]
       unfold Num.fixed
       rw [show Num.szN k = K from by have := HK.out; unfold Num.szN; omega]
       simp [List.append_assoc])
    | exact (((Below.refl _ w).drew.trans hb).alloc hb.size _)
    | exact ((((Below.refl _ w).alloc (Nat.le_refl _) _).drew).trans (hb.mono (Nat.le_succ _)))
    | exact ((((Below.refl _ w).alloc (Nat.le_refl _) _).drew).trans (hb.mono (by simp)))
end Go.Proofs.YtaeoghbmncpnlaaDoor
