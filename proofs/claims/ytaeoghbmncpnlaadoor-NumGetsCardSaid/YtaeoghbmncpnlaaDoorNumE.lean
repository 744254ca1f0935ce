/- The walk of the reference's Fixed. -/
import Derived.Test.YtaeoghbmncpnlaaDoorNumD
namespace Go.Proofs.YtaeoghbmncpnlaaDoor
open Go.RowKit

/-- The length in a slot. -/
def lenOf : Value → Nat | .slice _ n _ => n | _ => 0

def RFixedRel (q : List UInt8) (K : Nat) (w : World) (vb : Value) (wr : World) : Prop :=
  ∃ E : List UInt8, OwnB wr w.heap.size 5 vb E ∧ Below w.heap.size w wr ∧ ∃ c, E = q ++ List.replicate c 0 ∧ q.length + c ≤ K

set_option maxRecDepth 100000 in
set_option maxHeartbeats 400000 in
theorem ref_Fixed_any (t : List UInt8) (k : Int) (w : World) (h1 : t.length ≤ 1099511627776) (hk1 : -9223372036854775808 ≤ k) (hk2 : k ≤ 9223372036854775807) :
    Calls Tryd.prog 18 #[.string (bs t), .int .i64 k] w fun e w' => e = .returned (.string (bs (Num.fixed t k))) ∧ Below w.heap.size w w' := by
  have hz := bs_size t
  obtain ⟨K, hK⟩ : ∃ K : Nat, min (max k 0) 255 = (K : Int) := ⟨(min (max k 0) 255).toNat, by omega⟩
  have hK2 : K ≤ 255 := by omega
  have hext : (bs t).extract 0 (min (t.length : Int) (K : Int)).toNat = bs (t.take K) := by
    rw [bs_extract]
    congr 1
    rcases Nat.le_total t.length K with h | h
    · rw [show (min (t.length : Int) (K : Int)).toNat - 0 = t.length from by omega, List.take_of_length_le h]; simp
    · rw [show (min (t.length : Int) (K : Int)).toNat - 0 = K from by omega]; simp
  obtain ⟨q, hq⟩ : ∃ q, t.take K = q := ⟨_, rfl⟩
  rw [hq] at hext
  have hql : q.length ≤ K := by rw [← hq]; simp; omega
  have Hq := Lib.hid hq
  have hs := bs_size q
  obtain ⟨cap, w1, hcv, ho1, hb1⟩ := run_bytes_own (P := Tryd.prog) 9 47 5 Tryd.underlying9 Tryd.underlying47 Tryd.underlying5 w q (by unfold maxLen; omega) w.heap.size (Nat.le_refl _)
  have HK := Lib.hid (show Num.szN k = K from by unfold Num.szN Num.szI; omega)
  clear hq h1
  go_enter Tryd.func18, Tryd.ntmps18
  go_wp2_with fail
  clear hcv hext hK hz
  go_loopw [5] (fun vb wr => RFixedRel q K w vb wr) (fun vb _ => K - lenOf vb)
  case atStart => exact ⟨q, ho1, hb1, 0, by simp, by omega⟩
  case round =>
    clear ho1 hb1
    obtain ⟨E, ho, hb, c, hE, hc⟩ := hrel
    have hEl : E.length = q.length + c := by rw [hE]; simp
    have hfm := OwnR.forms ho
    obtain ⟨a, cap, rfl, _, _⟩ := hfm
    have hsz := hb.size
    by_cases hlt : E.length < K
    · have hn := Lib.hid (show E ++ [0] = q ++ List.replicate (c + 1) 0 from by rw [hE, List.append_assoc, List.replicate_succ'])
      have hm := Lib.hid hEl
      clear hE hEl
      go_wp2_with (at_builtin; refine wpList_append_byte rfl (.tmp 21) (.tmp 22) 47 rfl w.heap.size 5 Tryd.underlying47 u8_info _ E rfl ho 1 _ 0 rfl rfl (by omega) hsz ?_; intro g cap w' ho' hb')
      go_roundw
      case rel => exact ⟨_, ho', hb.trans hb', c + 1, hn.out, by have := hm.out; omega⟩
      case measure => simp [lenOf]; omega
    · have hEK : E.length = K := by omega
      have hd := Lib.hid (show E ++ [UInt8.ofNat q.length] = Num.fixed t k from by
        rw [hE]; unfold Num.fixed; rw [HK.out, Hq.out, show c = K - q.length from by omega])
      have hx : Hid (((UInt8.ofNat q.length).toNat : Int) = (q.length : Int) % 256) := by show _ = _; rw [Num.ofNat_toNat _ (by omega)]; omega
      generalize UInt8.ofNat q.length = x at hd hx
      have hE5 : E.length ≤ 255 := by omega
      have hlt' : K ≤ E.length := by omega
      have hq5 : q.length ≤ 255 := by omega
      clear hE hEl hEK hlt
      go_wp2_with (at_builtin; refine wpList_append_byte rfl (.tmp 24) (.tmp 28) 47 rfl w.heap.size 5 Tryd.underlying47 u8_info _ E rfl ho 1 _ x rfl (by rw [hx.out]; omega) (by omega) hsz ?_; intro g cap w' ho' hb'; have hc := run_conv_own (P := Tryd.prog) 47 9 5 Tryd.underlying47 Tryd.underlying5 Tryd.underlying9 w' w.heap.size g (E.length + 1) cap _ ho' (by simp); rw [hd.out] at hc)
      go_ret
      exact ⟨rfl, hb.trans hb'⟩
end Go.Proofs.YtaeoghbmncpnlaaDoor
