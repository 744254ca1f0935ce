/- The reference of layer 3: numbers as bytes. The document's texts of a fixed length: the walk of ref03.Fixed. The document's names and values: the walks of ref06.Name, ref06.Value. The document's limit, longest text, key and likeness of labels: the walks of ref06.Limit, Longest, Key, Same. May labels be, and are entries alike, as the document has it: the walks of ref06.Right, ref12.Same. The reference of layer 1: the check of bytes, bit by bit. How many bytes two texts begin with, as the document has it: the walk of ref12.common. -/
import Derived.Test.YtpeahjocimhneaaGreatDoorGA
import Derived.Test.YtpeahjocimhneaaGreatDoorGB
import Derived.Test.YtpeahjocimhneaaGreatDoorGD
import Derived.Test.YtpeahjocimhneaaGreatDoorGC
import Derived.Test.YtpeahjocimhneaaGreatDoorGF
import Derived.Test.YtpeahjocimhneaaGreatDoorGM
import Derived.Test.YtpeahjocimhneaaGreatDoorGP
import Derived.Test.YtpeahjocimhneaaGreatDoorGQ
import Derived.Test.YtpeahjocimhneaaGreatDoorGK
namespace Go.Proofs.YtpeahjocimhneaaGreatDoor
open Go.RowKit

set_option maxHeartbeats 400000 in
theorem ref_Zig_any (n : Int) (w : World) (h1 : -9223372036854775808 ≤ n) (h2 : n ≤ 9223372036854775807) :
    Calls Tryz.prog 78 #[.int .i64 n] w fun e w' => e = .returned (.int .u64 (Num.zigI n)) ∧ w = w' := by
  go_enter Tryz.func78, Tryz.ntmps78
  go_wp2
  all_goals go_ret
  · exact ⟨ret_int (by unfold Num.zigI; rw [if_pos (by assumption)]), rfl⟩
  · exact ⟨ret_int (by unfold Num.zigI; rw [if_neg (by omega)]; omega), rfl⟩

set_option maxRecDepth 100000 in
set_option maxHeartbeats 400000 in
theorem ref_Small_any (n : Int) (w : World) (h1 : 0 ≤ n) (h2 : n < 18446744073709551616) :
    Calls Tryz.prog 77 #[.int .u64 n] w fun e w' => e = .returned (.string (bs (Num.small n.toNat))) ∧ Below w.heap.size w w' := by
  go_enter Tryz.func77, Tryz.ntmps77
  go_wp2
  go_loopw [0, 3] (fun vn vb wr => RSmallRel n w vn vb wr) (fun vn _ _ => (intOf vn).toNat)
  case atStart =>
    exact ⟨n, [], rfl, OwnB.nil _ _ _, Below.refl _ _, by simp, h1, h2, by simp; omega, by simp [Num.small]⟩
  case round =>
    obtain ⟨m, E, rfl, ho, hb, hk9, hm0, hm, hp, he⟩ := hrel
    have hsz := hb.size
    by_cases hlt : 127 < m
    · have hn := Lib.hid (fun v wr ho hb => RSmallRel.next (w := w) hk9 hm0 hm hp he hlt v wr ho hb)
      have hx : Hid (((UInt8.ofNat (m.toNat % 128 + 128)).toNat : Int) = m % 128 + 128) := by show _ = _; rw [Num.ofNat_toNat _ (by omega)]; omega
      generalize UInt8.ofNat (m.toNat % 128 + 128) = x at hn hx
      clear hp he
      go_wp2_with (at_builtin; refine wpList_append_byte rfl (.tmp 6) (.tmp 11) 63 rfl w.heap.size 5 Tryz.underlying63 u8_info _ E rfl ho 1 _ x rfl hx.out.symm (by omega) hsz ?_; intro g cap w' ho' hb')
      go_roundw
      case rel => exact hn.out _ _ ho' (hb.trans hb')
      case measure => simp [intOf]; omega
    · have hlt' : m < 128 := by omega
      have hd := Lib.hid (small_done hm0 he hlt')
      have hx : Hid (((UInt8.ofNat m.toNat).toNat : Int) = m) := by show _ = _; rw [Num.ofNat_toNat _ (by omega)]; omega
      generalize UInt8.ofNat m.toNat = x at hd hx
      clear hp he
      go_wp2_with (at_builtin; refine wpList_append_byte rfl (.tmp 15) (.tmp 18) 63 rfl w.heap.size 5 Tryz.underlying63 u8_info _ E rfl ho 1 _ x rfl hx.out.symm (by omega) hsz ?_; intro g cap w' ho' hb'; have hc := run_conv_own (P := Tryz.prog) 63 9 5 Tryz.underlying63 Tryz.underlying5 Tryz.underlying9 w' w.heap.size g (E.length + 1) cap _ ho' (by simp); rw [hd.out] at hc)
      go_ret
      exact ⟨rfl, hb.trans hb'⟩

set_option maxRecDepth 100000 in
set_option maxHeartbeats 400000 in
theorem ref_Wide_any (n : Int) (w : World) (h1 : 0 ≤ n) (h2 : n < 18446744073709551616) :
    Calls Tryz.prog 71 #[.int .u64 n] w fun e w' => e = .returned (.string (bs (Num.wide n.toNat))) ∧ Below w.heap.size w w' := by
  go_enter Tryz.func71, Tryz.ntmps71
  go_wp2
  go_loopw [0, 3, 4] (fun vn vb vi wr => RWideRel n w vn vb vi wr) (fun _ _ vi _ => 10 - (intOf vi).toNat)
  case atStart => exact ⟨0, rfl, by simp; omega, by omega, OwnB.nil _ _ _, Below.refl _ _⟩
  case round =>
    obtain ⟨k, rfl, hn, hk8, ho, hb⟩ := hrel
    have hsz := hb.size
    have hm0 : 0 ≤ ((n.toNat / 256 ^ k : Nat) : Int) := Int.natCast_nonneg _
    have hm1 : ((n.toNat / 256 ^ k : Nat) : Int) < 18446744073709551616 := by have := Nat.div_le_self n.toNat (256 ^ k); omega
    have hdiv : Hid (((n.toNat / 256 ^ (k + 1) : Nat) : Int) = ((n.toNat / 256 ^ k : Nat) : Int) / 256) := by
      show _ = _; rw [Nat.pow_succ, ← Nat.div_div_eq_div_mul]; rfl
    have hx : Hid (((UInt8.ofNat (n.toNat / 256 ^ k % 256)).toNat : Int) = ((n.toNat / 256 ^ k : Nat) : Int) % 256) := by
      show _ = _; rw [Num.ofNat_toNat _ (by omega)]; omega
    have hw := Lib.hid (wideF_snoc k n.toNat)
    have hl := Num.wideF_len k n.toNat
    generalize ((n.toNat / 256 ^ k : Nat) : Int) = m at hn hm0 hm1 hdiv hx
    generalize UInt8.ofNat (n.toNat / 256 ^ k % 256) = x at hx hw
    subst hn
    by_cases hlt : k < 8
    · have hE : (Num.wideF k n.toNat).length + 1 ≤ 140737488355328 := by omega
      have hl' := Lib.hid hl
      clear hl
      go_wp2_with (at_builtin; refine wpList_append_byte rfl (.tmp 9) (.tmp 13) 63 rfl w.heap.size 5 Tryz.underlying63 u8_info _ _ rfl ho 1 _ x rfl hx.out.symm hE hsz ?_; intro g cap w' ho' hb')
      go_roundw
      case rel => exact ⟨k + 1, rfl, by rw [hdiv.out], by omega, by rw [hw.out]; exact ho', hb.trans hb'⟩
      case measure => simp [intOf]; omega
    · obtain rfl : k = 8 := by omega
      have hf := OwnB.form ho (by rw [hl]; omega)
      obtain ⟨g, cap, rfl, _⟩ := hf
      have hc := run_conv_own (P := Tryz.prog) 63 9 5 Tryz.underlying63 Tryz.underlying5 Tryz.underlying9 wr w.heap.size g _ cap _ ho rfl
      clear hl
      go_wp2
      go_ret
      exact ⟨rfl, hb⟩

set_option maxRecDepth 100000 in
set_option maxHeartbeats 400000 in
theorem ref_Text_any (t : List UInt8) (w : World) (h1 : t.length ≤ 1099511627776) :
    Calls Tryz.prog 74 #[.string (bs t)] w fun e w' => e = .returned (.string (bs (Num.text t))) ∧ Below w.heap.size w w' := by
  have hs := Num.small_len t.length
  have hz := Lib.hid (bs_size t)
  have hz2 := bs_size (Num.small t.length)
  have hz1 : (bs t).size ≤ 1099511627776 := by rw [hz.out]; exact h1
  have hc := Lib.hid (bs_append (Num.small t.length) t)
  have hsz : (bs (Num.small t.length)).size ≤ 10 := by omega
  clear hz2 hs
  go_enter Tryz.func74, Tryz.ntmps74
  go_wp2_with (go_at_call 77; refine (ref_Small_any _ _ (by omega) (by omega)).mono ?_; rw [Int.toNat_natCast, hz.out]; rintro e w' ⟨rfl, hb⟩)
  go_ret
  exact ⟨by rw [hc.out]; rfl, hb⟩
end Go.Proofs.YtpeahjocimhneaaGreatDoor
namespace Go.Proofs.YtpeahjocimhneaaGreatDoor
open Go.RowKit

/-- The length in a slot. -/
def lenOf : Value → Nat | .slice _ n _ => n | _ => 0

def RFixedRel (q : List UInt8) (K : Nat) (w : World) (vb : Value) (wr : World) : Prop :=
  ∃ E : List UInt8, OwnB wr w.heap.size 5 vb E ∧ Below w.heap.size w wr ∧ ∃ c, E = q ++ List.replicate c 0 ∧ q.length + c ≤ K

set_option maxRecDepth 100000 in
set_option maxHeartbeats 400000 in
theorem ref_Fixed_any (t : List UInt8) (k : Int) (w : World) (h1 : t.length ≤ 1099511627776) (hk1 : -9223372036854775808 ≤ k) (hk2 : k ≤ 9223372036854775807) :
    Calls Tryz.prog 72 #[.string (bs t), .int .i64 k] w fun e w' => e = .returned (.string (bs (Num.fixed t k))) ∧ Below w.heap.size w w' := by
  have hz := bs_size t
  obtain ⟨K, hK⟩ : ∃ K : Nat, min (max k 0) 255 = (K : Int) := ⟨(min (max k 0) 255).toNat, by omega⟩
  have hK2 : K ≤ 255 := by omega
  have hext : (bs t).extract 0 (min (t.length : Int) (K : Int)).toNat = bs (t.take K) := by
    rw [bs_extract]
    congr 1
    rcases Nat.le_total t.length K with h | h
    · rw [show (min (t.length : Int) (K : Int)).toNat - 0 = t.length from by omega, List.take_of_length_le h]; simp
    · rw [show (min (t.length : Int) (K : Int)).toNat - 0 = K from by omega]; simp
  obtain ⟨q, hq⟩ : ∃ q, t.take K = q := ⟨_, rfl⟩
  rw [hq] at hext
  have hql : q.length ≤ K := by rw [← hq]; simp; omega
  have Hq := Lib.hid hq
  have hs := bs_size q
  obtain ⟨cap, w1, hcv, ho1, hb1⟩ := run_bytes_own (P := Tryz.prog) 9 63 5 Tryz.underlying9 Tryz.underlying63 Tryz.underlying5 w q (by unfold maxLen; omega) w.heap.size (Nat.le_refl _)
  have HK := Lib.hid (show Num.szN k = K from by unfold Num.szN Num.szI; omega)
  clear hq h1
  go_enter Tryz.func72, Tryz.ntmps72
  go_wp2_with fail
  clear hcv hext hK hz
  go_loopw [5] (fun vb wr => RFixedRel q K w vb wr) (fun vb _ => K - lenOf vb)
  case atStart => exact ⟨q, ho1, hb1, 0, by simp, by omega⟩
  case round =>
    clear ho1 hb1
    obtain ⟨E, ho, hb, c, hE, hc⟩ := hrel
    have hEl : E.length = q.length + c := by rw [hE]; simp
    have hfm := OwnR.forms ho
    obtain ⟨a, cap, rfl, _, _⟩ := hfm
    have hsz := hb.size
    by_cases hlt : E.length < K
    · have hn := Lib.hid (show E ++ [0] = q ++ List.replicate (c + 1) 0 from by rw [hE, List.append_assoc, List.replicate_succ'])
      have hm := Lib.hid hEl
      clear hE hEl
      go_wp2_with (at_builtin; refine wpList_append_byte rfl (.tmp 21) (.tmp 22) 63 rfl w.heap.size 5 Tryz.underlying63 u8_info _ E rfl ho 1 _ 0 rfl rfl (by omega) hsz ?_; intro g cap w' ho' hb')
      go_roundw
      case rel => exact ⟨_, ho', hb.trans hb', c + 1, hn.out, by have := hm.out; omega⟩
      case measure => simp [lenOf]; omega
    · have hEK : E.length = K := by omega
      have hd := Lib.hid (show E ++ [UInt8.ofNat q.length] = Num.fixed t k from by
        rw [hE]; unfold Num.fixed; rw [HK.out, Hq.out, show c = K - q.length from by omega])
      have hx : Hid (((UInt8.ofNat q.length).toNat : Int) = (q.length : Int) % 256) := by show _ = _; rw [Num.ofNat_toNat _ (by omega)]; omega
      generalize UInt8.ofNat q.length = x at hd hx
      have hE5 : E.length ≤ 255 := by omega
      have hlt' : K ≤ E.length := by omega
      have hq5 : q.length ≤ 255 := by omega
      clear hE hEl hEK hlt
      go_wp2_with (at_builtin; refine wpList_append_byte rfl (.tmp 24) (.tmp 28) 63 rfl w.heap.size 5 Tryz.underlying63 u8_info _ E rfl ho 1 _ x rfl (by rw [hx.out]; omega) (by omega) hsz ?_; intro g cap w' ho' hb'; have hc := run_conv_own (P := Tryz.prog) 63 9 5 Tryz.underlying63 Tryz.underlying5 Tryz.underlying9 w' w.heap.size g (E.length + 1) cap _ ho' (by simp); rw [hd.out] at hc)
      go_ret
      exact ⟨rfl, hb.trans hb'⟩
end Go.Proofs.YtpeahjocimhneaaGreatDoor
namespace Go.Proofs.YtpeahjocimhneaaGreatDoor
open Go.RowKit Go.Maps Go.WideMaps
attribute [local go_sem] bs_toList bs_size

def digitC (b : UInt8) : Bool := decide (48 ≤ b.toNat) && decide (b.toNat ≤ 57)
def nameC (b : UInt8) : Bool := (decide (97 ≤ b.toNat) && decide (b.toNat ≤ 122)) || ((b.toNat == 95) || digitC b)
def valC (b : UInt8) : Bool := !decide (b.toNat < 32) && !decide (126 < b.toNat)
def nameR (s : List UInt8) : Bool := !s.isEmpty && (decide (s.length ≤ 48) && (!digitC (s.headD 0) && s.all nameC))
def valueR (s : List UInt8) : Bool := s.all valC && (!s.isEmpty && decide (s.length ≤ 48))
theorem mask_name : ∀ n : Fin 256, decide (maskN n.val &&& 2 ≠ 0) = nameC (UInt8.ofNat n.val) := by decide +kernel
theorem mask_val : ∀ n : Fin 256, decide (maskN n.val &&& 4 ≠ 0) = valC (UInt8.ofNat n.val) := by decide +kernel
theorem mask_head : ∀ n : Fin 256, nameC (UInt8.ofNat n.val) = true → decide (maskN n.val &&& 1 ≠ 0) = !digitC (UInt8.ofNat n.val) := by decide +kernel
theorem u8_fin (b : UInt8) : ∃ n : Fin 256, b = UInt8.ofNat n.val ∧ b.toNat = n.val := ⟨⟨b.toNat, b.toNat_lt⟩, by simp, rfl⟩
theorem value_all (s : List UInt8) : valueR s = allB s 4 := by
  unfold valueR allB
  congr 1
  refine List.all_congr rfl fun b => ?_
  obtain ⟨n, h1, h2⟩ := u8_fin b
  rw [h2, mask_val n, ← h1]
theorem name_all (s : List UInt8) : nameR s = (allB s 2 && allB (s.take 1) 1) := by
  cases s with
  | nil => rfl
  | cons b r =>
    have h2 : ((b :: r).all fun b => decide (maskN b.toNat &&& 2 ≠ 0)) = (b :: r).all nameC := List.all_congr rfl fun b => by
      obtain ⟨n, h1, h2⟩ := u8_fin b
      rw [h2, mask_name n, ← h1]
    unfold nameR allB
    rw [h2]
    simp only [List.isEmpty_cons, Bool.not_false, Bool.true_and, List.headD_cons, List.take_succ_cons, List.take_zero, List.all_cons, List.all_nil, Bool.and_true, List.length_cons, List.length_nil]
    obtain ⟨n, h1, h3⟩ := u8_fin b
    cases hc : nameC b with
    | false => simp
    | true =>
      have h4 := mask_head n (by rw [← h1]; exact hc)
      rw [h3, h4, ← h1]
      cases digitC b <;> cases decide (r.length + 1 ≤ 48) <;> cases r.all nameC <;> simp
set_option maxRecDepth 100000 in
set_option maxHeartbeats 1000000 in
theorem RValue_any (s : List UInt8) (w : World) (hs : s.length ≤ 1099511627776) :
    Calls Tryz.prog 82 #[.string (bs s)] w fun e w' => e = .returned (.bool (valueR s)) ∧ Below w.heap.size w w' := by
  have HI1 := Lib.hid (fun (i : Nat) b (h : s[i]? = some b) k W => run_index_bs (P := Tryz.prog) 9 Tryz.underlying9 s i b h k W)
  have hz1 := bs_size s
  have H0 := Lib.hid (show valueR s = ((s.drop 0).all valC && (!s.isEmpty && decide (s.length ≤ 48))) from rfl)
  generalize valueR s = R at *
  go_enter Tryz.func82, Tryz.ntmps82
  go_wp2_with fail
  go_loopw [3] (fun vi wr => ∃ k : Nat, k ≤ s.length ∧ vi = .int .i64 (k : Int) ∧ Hid (R = ((s.drop k).all valC && (!s.isEmpty && decide (s.length ≤ 48)))) ∧ Below w.heap.size w wr) (fun vi _ => s.length - (intOf vi).toNat)
  case atStart => exact ⟨0, Nat.zero_le _, rfl, H0, Below.refl _ _⟩
  clear H0
  obtain ⟨k, hk, rfl, HR, hb⟩ := hrel
  rcases (show k < s.length ∨ k = s.length by omega) with hkl | hkN
  · have j1 := HI1.out k s[k] (List.getElem?_eq_getElem hkl)
    have HC := Lib.hid (show R = ((valC s[k] && (s.drop (k + 1)).all valC) && (!s.isEmpty && decide (s.length ≤ 48))) by
      rw [HR.out, List.drop_eq_getElem_cons hkl]; rfl)
    have HV := Lib.hid (show valC s[k] = (!decide (s[k].toNat < 32) && !decide (126 < s[k].toNat)) from rfl)
    generalize s[k] = c at *
    generalize valC c = vc at *
    clear HI1 HR
    generalize c.toNat = n at *
    by_cases h1 : n < 32
    · have f1 : decide (n < 32) = true := by simpa using h1
      have f1' : decide ((n : Int) < 32) = true := by simp; omega
      rw [f1] at HV
      have HF := Lib.hid (show R = false by rw [HC.out, HV.out]; simp)
      clear HC HV h1
      go_wp2_with fail
      go_ret
      exact ⟨by rw [HF.out]; rfl, hb⟩
    · have f1 : decide (n < 32) = false := by simpa using h1
      have f1' : decide ((n : Int) < 32) = false := by simp; omega
      rw [f1] at HV
      by_cases h2 : 126 < n
      · have f2 : decide (126 < n) = true := by simpa using h2
        have f2' : decide ((126 : Int) < (n : Int)) = true := by simp; omega
        rw [f2] at HV
        have HF := Lib.hid (show R = false by rw [HC.out, HV.out]; simp)
        clear HC HV h1 h2
        go_wp2_with fail
        go_ret
        exact ⟨by rw [HF.out]; rfl, hb⟩
      · have f2 : decide (126 < n) = false := by simpa using h2
        have f2' : decide ((126 : Int) < (n : Int)) = false := by simp; omega
        rw [f2] at HV
        have HF := Lib.hid (show R = ((s.drop (k + 1)).all valC && (!s.isEmpty && decide (s.length ≤ 48))) by rw [HC.out, HV.out]; simp)
        clear HC HV h1 h2
        go_wp2_with fail
        go_roundw
        case rel => exact ⟨k + 1, by omega, by go_num, HF, hb⟩
        case measure => simp [intOf]; omega
  · subst hkN
    have HC := Lib.hid (show R = (!s.isEmpty && decide (s.length ≤ 48)) by rw [HR.out, List.drop_length]; rfl)
    by_cases hs0 : s = []
    · subst hs0
      have HF := Lib.hid (show R = false by rw [HC.out]; rfl)
      clear HC HR HI1
      go_wp2_with fail
      go_ret
      exact ⟨by rw [HF.out]; rfl, hb⟩
    · have f0 : s.isEmpty = false := by cases s with
        | nil => exact (hs0 rfl).elim
        | cons _ _ => rfl
      have f0' : (s == []) = false := by simpa using hs0
      rw [f0] at HC
      clear hs0 HR HI1
      by_cases h1 : s.length ≤ 48
      · have f1 : decide (s.length ≤ 48) = true := by simpa using h1
        have f1' : decide ((s.length : Int) ≤ 48) = true := by simp; omega
        rw [f1] at HC
        go_wp2_with fail
        go_ret
        exact ⟨by rw [HC.out]; rfl, hb⟩
      · have f1 : decide (s.length ≤ 48) = false := by simpa using h1
        have f1' : decide ((s.length : Int) ≤ 48) = false := by simp; omega
        rw [f1] at HC
        go_wp2_with fail
        go_ret
        exact ⟨by rw [HC.out]; rfl, hb⟩
set_option maxRecDepth 100000 in
set_option maxHeartbeats 2000000 in
theorem RName_any (s : List UInt8) (w : World) (hs : s.length ≤ 1099511627776) :
    Calls Tryz.prog 81 #[.string (bs s)] w fun e w' => e = .returned (.bool (nameR s)) ∧ Below w.heap.size w w' := by
  cases s with
  | nil =>
    go_enter Tryz.func81, Tryz.ntmps81
    go_wp2_with fail
    go_ret
    exact ⟨rfl, Below.refl _ _⟩
  | cons b0 r =>
  have j0 : ∀ W, (Instr.index 9 (.string (bs (b0 :: r))) (.int .i64 0)).run Tryz.prog W = .ok (.int .u8 (b0.toNat : Int)) W := fun W => run_index_bs (P := Tryz.prog) 9 Tryz.underlying9 (b0 :: r) 0 b0 rfl .i64 W
  have HI1 := Lib.hid (fun (i : Nat) b (h : (b0 :: r)[i]? = some b) k W => run_index_bs (P := Tryz.prog) 9 Tryz.underlying9 (b0 :: r) i b h k W)
  have hz1 := bs_size (b0 :: r)
  have fe : (b0 :: r).isEmpty = false := rfl
  have fe' : ((b0 :: r) == []) = false := rfl
  have HN := Lib.hid (show nameR (b0 :: r) = (decide ((b0 :: r).length ≤ 48) && (!(decide (48 ≤ b0.toNat) && decide (b0.toNat ≤ 57)) && (b0 :: r).all nameC)) from rfl)
  generalize nameR (b0 :: r) = R at *
  generalize b0.toNat = n0 at *
  generalize b0 :: r = s at *
  clear r b0
  by_cases hl : 48 < s.length
  · have f1 : decide (48 < s.length) = true := by simpa using hl
    have f1' : decide ((48 : Int) < (s.length : Int)) = true := by simp; omega
    have HF := Lib.hid (show R = false by rw [HN.out]; simp; omega)
    clear HN HI1 hl j0
    go_enter Tryz.func81, Tryz.ntmps81
    go_wp2_with fail
    go_ret
    exact ⟨by rw [HF.out]; rfl, Below.refl _ _⟩
  have f1 : decide (48 < s.length) = false := by simpa using hl
  have f1' : decide ((48 : Int) < (s.length : Int)) = false := by simp; omega
  have HN2 := Lib.hid (show R = (!(decide (48 ≤ n0) && decide (n0 ≤ 57)) && s.all nameC) by rw [HN.out, show decide (s.length ≤ 48) = true by simp; omega]; simp)
  clear HN hl
  have HD : (48 ≤ n0 ∧ n0 ≤ 57) ∨ ¬ (48 ≤ n0 ∧ n0 ≤ 57) := Classical.em _
  rcases HD with ⟨h1, h2⟩ | h12
  · have f2 : decide (48 ≤ n0) = true := by simpa using h1
    have f2' : decide ((48 : Int) ≤ (n0 : Int)) = true := by simp; omega
    have f3 : decide (n0 ≤ 57) = true := by simpa using h2
    have f3' : decide ((n0 : Int) ≤ 57) = true := by simp; omega
    have HF := Lib.hid (show R = false by rw [HN2.out, f2, f3]; rfl)
    clear HN2 HI1 h1 h2
    go_enter Tryz.func81, Tryz.ntmps81
    go_wp2_with fail
    go_ret
    exact ⟨by rw [HF.out]; rfl, Below.refl _ _⟩
  have H0 := Lib.hid (show R = (s.drop 0).all nameC by
    rw [HN2.out, List.drop_zero]
    have : (decide (48 ≤ n0) && decide (n0 ≤ 57)) = false := by
      rw [Bool.eq_false_iff]
      intro h
      simp only [Bool.and_eq_true, decide_eq_true_eq] at h
      exact h12 h
    rw [this]
    rfl)
  clear HN2
  have HE : (∃ b2 b3, decide (48 ≤ n0) = b2 ∧ decide (n0 ≤ 57) = b3 ∧ decide ((48 : Int) ≤ (n0 : Int)) = b2 ∧ decide ((n0 : Int) ≤ 57) = b3 ∧ (b2 && b3) = false) := ⟨_, _, rfl, rfl, by rw [Bool.eq_iff_iff]; simp only [decide_eq_true_eq]; omega, by rw [Bool.eq_iff_iff]; simp only [decide_eq_true_eq]; omega, by
      rw [Bool.eq_false_iff]
      intro h
      simp only [Bool.and_eq_true, decide_eq_true_eq] at h
      exact h12 h⟩
  obtain ⟨b2, b3, g2, g3, g2', g3', hbb⟩ := HE
  clear h12
  cases b2 <;> cases b3 <;> simp only [Bool.and_true, Bool.and_false, Bool.and_self, reduceCtorEq] at hbb <;>
  (
    go_enter Tryz.func81, Tryz.ntmps81
    go_wp2_with fail
    clear g2 g3 g2' g3' j0
    go_loopw [3] (fun vi wr => ∃ k : Nat, k ≤ s.length ∧ vi = .int .i64 (k : Int) ∧ Hid (R = (s.drop k).all nameC) ∧ Below w.heap.size w wr) (fun vi _ => s.length - (intOf vi).toNat)
    case atStart => exact ⟨0, Nat.zero_le _, rfl, H0, Below.refl _ _⟩
    clear H0
    obtain ⟨k, hk, rfl, HR, hb⟩ := hrel
    rcases (show k < s.length ∨ k = s.length by omega) with hkl | hkN
    · have j1 := HI1.out k s[k] (List.getElem?_eq_getElem hkl)
      have HC := Lib.hid (show R = (nameC s[k] && (s.drop (k + 1)).all nameC) by rw [HR.out, List.drop_eq_getElem_cons hkl]; rfl)
      have HV := Lib.hid (show nameC s[k] = ((decide (97 ≤ s[k].toNat) && decide (s[k].toNat ≤ 122)) || ((s[k].toNat == 95) || (decide (48 ≤ s[k].toNat) && decide (s[k].toNat ≤ 57)))) from rfl)
      generalize s[k] = c at *
      generalize nameC c = nc at *
      clear HI1 HR
      generalize c.toNat = n at *
      obtain ⟨a1, e1⟩ : ∃ b, decide (97 ≤ n) = b := ⟨_, rfl⟩
      obtain ⟨a2, e2⟩ : ∃ b, decide (n ≤ 122) = b := ⟨_, rfl⟩
      obtain ⟨a3, e3⟩ : ∃ b, (n == 95) = b := ⟨_, rfl⟩
      obtain ⟨a4, e4⟩ : ∃ b, decide (48 ≤ n) = b := ⟨_, rfl⟩
      obtain ⟨a5, e5⟩ : ∃ b, decide (n ≤ 57) = b := ⟨_, rfl⟩
      have i1 : decide ((97 : Int) ≤ (n : Int)) = a1 := by rw [← e1, Bool.eq_iff_iff]; simp only [decide_eq_true_eq]; omega
      have i2 : decide ((n : Int) ≤ 122) = a2 := by rw [← e2, Bool.eq_iff_iff]; simp only [decide_eq_true_eq]; omega
      have i3 : ((n : Int) == 95) = a3 := by rw [← e3, Bool.eq_iff_iff]; simp; omega
      have i4 : decide ((48 : Int) ≤ (n : Int)) = a4 := by rw [← e4, Bool.eq_iff_iff]; simp only [decide_eq_true_eq]; omega
      have i5 : decide ((n : Int) ≤ 57) = a5 := by rw [← e5, Bool.eq_iff_iff]; simp only [decide_eq_true_eq]; omega
      rw [e1, e2, e3, e4, e5] at HV
      have HF := Lib.hid (show R = ((a1 && a2 || (a3 || a4 && a5)) && (s.drop (k + 1)).all nameC) by rw [HC.out, HV.out])
      clear HC HV
      cases a1 <;> cases a2 <;> cases a3 <;> cases a4 <;> cases a5 <;>
      (
        go_wp2_with fail
        first
          | (go_roundw
             case rel => exact ⟨k + 1, by omega, by go_num, Lib.hid (by rw [HF.out]; simp), hb⟩
             case measure => simp [intOf]; omega)
          | (go_ret
             exact ⟨by rw [HF.out]; simp, hb⟩))
    · subst hkN
      have HC := Lib.hid (show R = true by rw [HR.out, List.drop_length]; rfl)
      go_wp2_with fail
      go_ret
      exact ⟨by rw [HC.out]; rfl, hb⟩)
end Go.Proofs.YtpeahjocimhneaaGreatDoor
namespace Go.Proofs.YtpeahjocimhneaaGreatDoor
open Go.RowKit Go.Maps Go.WideMaps
attribute [local go_sem] bs_toList bs_size

set_option maxRecDepth 100000 in
theorem RLimit_any (g : Int) (w : World) :
    Calls Tryz.prog 40 #[.int .i64 g] w fun e w' => e = .returned (.int .i64 (limitG g)) ∧ Below w.heap.size w w' := by
  by_cases h1 : g = 1
  · subst h1
    go_enter Tryz.func40, Tryz.ntmps40
    go_wp2
    go_ret
    exact ⟨rfl, Below.refl _ _⟩
  have f1 : (g == 1) = false := by simpa using h1
  by_cases h2 : g = 2
  · subst h2
    go_enter Tryz.func40, Tryz.ntmps40
    go_wp2
    go_ret
    exact ⟨rfl, Below.refl _ _⟩
  have f2 : (g == 2) = false := by simpa using h2
  by_cases h3 : g = 3
  · subst h3
    go_enter Tryz.func40, Tryz.ntmps40
    go_wp2
    go_ret
    exact ⟨rfl, Below.refl _ _⟩
  have f3 : (g == 3) = false := by simpa using h3
  have hl : limitG g = 0 := by unfold limitG; simp [h1, h2, h3]
  rw [hl]
  clear hl h1 h2 h3
  go_enter Tryz.func40, Tryz.ntmps40
  go_wp2
  go_ret
  exact ⟨rfl, Below.refl _ _⟩
set_option maxRecDepth 100000 in
set_option maxHeartbeats 1000000 in
theorem RLongest_any (L : List Lb) (v : Value) (w : World) (h : LabsAt w v L) :
    Calls Tryz.prog 39 #[v] w fun e w' => e = .returned (.int .i64 (longestB L : Int)) ∧ Below w.heap.size w w' := by
  obtain ⟨a, c, rfl, hn, hc⟩ := h
  have HC := Lib.hid hc
  clear hc
  go_enter Tryz.func39, Tryz.ntmps39
  go_wp2_with fail
  go_loopw [3, 4] (fun vn vi wr => ∃ i : Nat, i ≤ L.length ∧ vi = .int .i64 (i : Int) ∧ vn = .int .i64 (longestB (L.take i) : Int) ∧ longestB (L.take i) ≤ 1048576 ∧ Below w.heap.size w wr) (fun _ vi _ => L.length - (intOf vi).toNat)
  case atStart => exact ⟨0, Nat.zero_le _, rfl, rfl, Nat.zero_le _, Below.refl _ _⟩
  obtain ⟨i, hi, rfl, rfl, hlb, hb⟩ := hrel
  rcases (show i < L.length ∨ i = L.length by omega) with hil | hiN
  · have HL := Lib.hid (show longestB (L.take (i + 1)) = max (max (longestB (L.take i)) L[i].1.length) L[i].2.length by
      unfold longestB; rw [List.take_succ_eq_append_getElem hil, List.foldl_append]; rfl)
    obtain ⟨hx1, hx2, b, o, rfl, d0, d1⟩ := HC.out i _ (List.getElem?_eq_getElem hil)
    have e0 := (hb.cell (World.block_lt_of_cell? _ _ d0)).trans d0
    have e1 := (hb.cell (World.block_lt_of_cell? _ _ d1)).trans d1
    clear d0 d1 HC
    generalize L[i] = x at *
    generalize longestB (L.take i) = m at *
    have hz1 := bs_size x.1
    have hz2 := bs_size x.2
    go_wp2_with fail
    go_quiet (fail)
    go_wp2_with fail
    go_roundw
    case rel => exact ⟨i + 1, by omega, by go_num, by
      rw [HL.out]
      congr 1
      first
        | omega
        | (split <;> split <;> omega), by rw [HL.out]; omega, below_drewN hb _⟩
    case measure => simp [intOf]; omega
  · subst hiN
    rw [List.take_length] at *
    go_wp2_with fail
    go_ret
    exact ⟨rfl, hb⟩
theorem key_len (L : List Lb) (h : fewL L) : (keyB L).length ≤ 10000 := by
  have hh : ∀ (l : List Lb), (∀ x ∈ l, x.1.length ≤ 300 ∧ x.2.length ≤ 300) → (keyB l).length ≤ l.length * 700 := fun l => by
    induction l with
    | nil => intro _; simp [keyB]
    | cons x l ih =>
      intro hx
      have h1 := hx x List.mem_cons_self
      have h2 := ih fun y hy => hx y (List.mem_cons_of_mem _ hy)
      have h3 : keyB (x :: l) = (Num.text x.1 ++ Num.text x.2) ++ keyB l := rfl
      have h4 := Num.text_len x.1
      have h5 := Num.text_len x.2
      have h6 := (Num.small_len x.1.length).2
      have h7 := (Num.small_len x.2.length).2
      rw [h3, List.length_append, List.length_append, List.length_cons]
      omega
  have h2 := hh L h.2
  have := h.1
  omega
theorem key_part (L : List Lb) (i : Nat) : (keyB (L.take i)).length ≤ (keyB L).length := by
  have : keyB L = keyB (L.take i) ++ keyB (L.drop i) := by
    conv => lhs; rw [← List.take_append_drop i L]
    unfold keyB
    rw [List.flatMap_append]
  rw [this, List.length_append]
  omega
set_option maxRecDepth 100000 in
set_option maxHeartbeats 1000000 in
theorem RKey_any (L : List Lb) (v : Value) (w : World) (h : LabsAt w v L) (hf : fewL L) :
    Calls Tryz.prog 38 #[v] w fun e w' => e = .returned (.string (bs (keyB L))) ∧ Below w.heap.size w w' := by
  have hkl := key_len L hf
  have HKP := Lib.hid (fun i => Nat.le_trans (key_part L i) hkl)
  obtain ⟨a, c, rfl, hn, hc⟩ := h
  have HC := Lib.hid hc
  clear hc
  go_enter Tryz.func38, Tryz.ntmps38
  go_wp2_with fail
  go_loopw [3, 4] (fun vs vi wr => ∃ i : Nat, i ≤ L.length ∧ vi = .int .i64 (i : Int) ∧ vs = .string (bs (keyB (L.take i))) ∧ Below w.heap.size w wr) (fun _ vi _ => L.length - (intOf vi).toNat)
  case atStart => exact ⟨0, Nat.zero_le _, rfl, rfl, Below.refl _ _⟩
  obtain ⟨i, hi, rfl, rfl, hb⟩ := hrel
  rcases (show i < L.length ∨ i = L.length by omega) with hil | hiN
  · have HL := Lib.hid (show keyB (L.take (i + 1)) = (keyB (L.take i) ++ Num.text L[i].1) ++ Num.text L[i].2 by
      rw [List.take_succ_eq_append_getElem hil, keyB_snoc, List.append_assoc])
    obtain ⟨hx1, hx2, b, o, rfl, d0, d1⟩ := HC.out i _ (List.getElem?_eq_getElem hil)
    have e0 := grow_cell ((hb.cell (World.block_lt_of_cell? _ _ d0)).trans d0)
    have e1 := grow_cell ((hb.cell (World.block_lt_of_cell? _ _ d1)).trans d1)
    have hK := HKP.out (i + 1)
    rw [HL.out] at hK
    have hKl : (keyB (L.take i)).length + (Num.text L[i].1).length + (Num.text L[i].2).length ≤ 10000 := by simpa [List.length_append, Nat.add_assoc] using hK
    clear d0 d1 HC HKP hK
    have t1 := Lib.hid (fun W => ref_Text_any L[i].1 W (by omega))
    have t2 := Lib.hid (fun W => ref_Text_any L[i].2 W (by omega))
    have a1 : ∀ W, (Op.stringOp .add (bs (keyB (L.take i))) (bs (Num.text L[i].1))).run Tryz.prog W = .ok (.string (bs (keyB (L.take i) ++ Num.text L[i].1))) W := fun W => run_add_bs (P := Tryz.prog) _ _ (by omega) W
    have a2 : ∀ W, (Op.stringOp .add (bs (keyB (L.take i) ++ Num.text L[i].1)) (bs (Num.text L[i].2))).run Tryz.prog W = .ok (.string (bs ((keyB (L.take i) ++ Num.text L[i].1) ++ Num.text L[i].2))) W := fun W => run_add_bs (P := Tryz.prog) _ _ (by rw [List.length_append]; omega) W
    generalize L[i] = x at *
    obtain ⟨xn, xv⟩ := x
    simp only at HL t1 t2 a1 a2 e0 e1 hKl
    generalize keyB (L.take i) = K at *
    generalize Num.text xn = T1 at *
    generalize Num.text xv = T2 at *
    go_wp2_with fail
    refine wp_region_at (R := GrowR) (by kernel_rfl) (by kernel_rfl) ?_
    (try dsimp only)
    (refine lex_one (by kernel_rfl) (by kernel_rfl) (by kernel_rfl) (fun K hK => ?_); go_big_quiet_step (fail); refine wpQuiet_nil (hK _ ?_); clear hK K); (refine lex_one (by kernel_rfl) (by kernel_rfl) (by kernel_rfl) (fun K hK => ?_); go_big_quiet_step (fail); refine wpQuiet_nil (hK _ ?_); clear hK K); (refine lex_one (by kernel_rfl) (by kernel_rfl) (by kernel_rfl) (fun K hK => ?_); go_big_quiet_step (fail); refine wpQuiet_nil (hK _ ?_); clear hK K); (refine lex_one (by kernel_rfl) (by kernel_rfl) (by kernel_rfl) (fun K hK => ?_); go_big_quiet_step (fail); refine wpQuiet_nil (hK _ ?_); clear hK K); (refine lex_one (by kernel_rfl) (by kernel_rfl) (by kernel_rfl) (fun K hK => ?_); go_big_quiet_step (fail); refine wpQuiet_nil (hK _ ?_); clear hK K); (refine lex_one (by kernel_rfl) (by kernel_rfl) (by kernel_rfl) (fun K hK => ?_); go_big_quiet_step (fail); refine wpQuiet_nil (hK _ ?_); clear hK K)
    (refine lex_call (f := 74) (args := #[.string (bs xn)]) (v := .string (bs T1)) (by kernel_rfl) (fun _ _ h => by cases h) (by kernel_rfl) (by kernel_rfl) (fun _ => by go_simp) (fun W hW => t1.out W) (lex_put (type := 0) (pos := "") (fun K hK => ?_)); go_big_quiet_step (fail); refine wpQuiet_nil (hK _ ?_); clear hK K)
    (refine lex_one (by kernel_rfl) (by kernel_rfl) (by kernel_rfl) (fun K hK => ?_); go_big_quiet_step (fail); refine wpQuiet_nil (hK _ ?_); clear hK K); (refine lex_one (by kernel_rfl) (by kernel_rfl) (by kernel_rfl) (fun K hK => ?_); go_big_quiet_step (fail); refine wpQuiet_nil (hK _ ?_); clear hK K); (refine lex_one (by kernel_rfl) (by kernel_rfl) (by kernel_rfl) (fun K hK => ?_); go_big_quiet_step (fail); refine wpQuiet_nil (hK _ ?_); clear hK K); (refine lex_one (by kernel_rfl) (by kernel_rfl) (by kernel_rfl) (fun K hK => ?_); go_big_quiet_step (fail); refine wpQuiet_nil (hK _ ?_); clear hK K); (refine lex_one (by kernel_rfl) (by kernel_rfl) (by kernel_rfl) (fun K hK => ?_); go_big_quiet_step (fail); refine wpQuiet_nil (hK _ ?_); clear hK K); (refine lex_one (by kernel_rfl) (by kernel_rfl) (by kernel_rfl) (fun K hK => ?_); go_big_quiet_step (fail); refine wpQuiet_nil (hK _ ?_); clear hK K)
    (refine lex_call (f := 74) (args := #[.string (bs xv)]) (v := .string (bs T2)) (by kernel_rfl) (fun _ _ h => by cases h) (by kernel_rfl) (by kernel_rfl) (fun _ => by go_simp) (fun W hW => t2.out W) (lex_put (type := 0) (pos := "") (fun K hK => ?_)); go_big_quiet_step (fail); refine wpQuiet_nil (hK _ ?_); clear hK K)
    (refine lex_one (by kernel_rfl) (by kernel_rfl) (by kernel_rfl) (fun K hK => ?_); go_big_quiet_step (fail); refine wpQuiet_nil (hK _ ?_); clear hK K); (refine lex_one (by kernel_rfl) (by kernel_rfl) (by kernel_rfl) (fun K hK => ?_); go_big_quiet_step (fail); refine wpQuiet_nil (hK _ ?_); clear hK K)
    refine lex_nil (by kernel_rfl) (by kernel_rfl) (by kernel_rfl) ?_
    intro W9 hb9
    simp only [hideAll]
    have hb9' : Below w.heap.size w W9 := hb.trans (Below.mono hb9 hb.size)
    go_wp2_with fail
    go_roundw
    case rel => exact ⟨i + 1, by omega, by go_num, by rw [HL.out, List.append_assoc], hb9'⟩
    case measure => simp [intOf]; omega
  · subst hiN
    rw [List.take_length] at *
    go_wp2_with fail
    go_ret
    exact ⟨rfl, hb⟩
set_option maxRecDepth 100000 in
theorem eqInLb_run (x y : Lb) (w : World) : (Op.equalIn 10000 37 (.agg (encLb x).toArray) (.agg (encLb y).toArray)).run Tryz.prog w = .ok (decide (x = y)) w := by
  have u3 := Tryz.underlying9
  have hS : Tryz.prog.underlying 37 = some (.struct (Tryz.prog.fieldsOf 37)) := by kernel_rfl
  have hp : Tryz.prog.stoodInHeld 37 = false := by kernel_rfl
  have h1 := lb_eq x y
  simp only [encLb]
  rw [show (10000 : Nat) = 9999 + 1 from rfl, run_equalIn_agg w 9999 37 _ _ hS hp]
  simp only [Program.fieldsOf, Tryz.underlying37]
  go_simp
  rw [← h1]
  by_cases h2 : x.1 = y.1 <;> by_cases h3 : x.2 = y.2 <;> simp [h2, h3]
set_option maxRecDepth 100000 in
set_option maxHeartbeats 1000000 in
theorem RSame6_any (L M : List Lb) (v u : Value) (w : World) (h1 : LabsAt w v L) (h2 : LabsAt w u M) :
    Calls Tryz.prog 41 #[v, u] w fun e w' => e = .returned (.bool (decide (L = M))) ∧ Below w.heap.size w w' := by
  obtain ⟨s1, c1, rfl, l1, x1⟩ := h1
  obtain ⟨s2, c2, rfl, l2, x2⟩ := h2
  by_cases hlen : L.length = M.length
  · rw [← hlen]
    generalize hna : L.length = n at *
    have hnA := Lib.hid hna
    have hnB := Lib.hid hlen
    clear hna hlen l2
    go_enter Tryz.func41, Tryz.ntmps41
    go_wp2_with fail
    go_loopw [5] (fun i wr => ∃ j : Nat, j ≤ n ∧ i = .int .i64 (j : Int) ∧ L.take j = M.take j ∧ Below w.heap.size w wr) (fun i _ => n - (intOf i).toNat)
    case atStart => exact ⟨0, Nat.zero_le _, rfl, rfl, Below.refl _ _⟩
    case round =>
      obtain ⟨j, hj, rfl, hpre, hbw⟩ := hrel
      by_cases hjn : j < n
      · have hja : j < L.length := by rw [hnA.out]; exact hjn
        obtain ⟨_, _, b1, o1, rfl, d1, d1'⟩ := x1 j L[j] (List.getElem?_eq_getElem hja)
        have hjb : j < M.length := by rw [← hnB.out]; exact hjn
        obtain ⟨_, _, b2, o2, rfl, d2, d2'⟩ := x2 j M[j] (List.getElem?_eq_getElem hjb)
        have g1 := (Below.cell hbw (World.block_lt_of_cell? _ _ d1)).trans d1
        have g1' := (Below.cell hbw (World.block_lt_of_cell? _ _ d1')).trans d1'
        have g2 := (Below.cell hbw (World.block_lt_of_cell? _ _ d2)).trans d2
        have g2' := (Below.cell hbw (World.block_lt_of_cell? _ _ d2')).trans d2'
        have hta : L.take (j + 1) = L.take j ++ [L[j]] := by rw [List.take_succ_eq_append_getElem hja]
        have htb : M.take (j + 1) = M.take j ++ [M[j]] := by rw [List.take_succ_eq_append_getElem hjb]
        have hq := fun W => eqInLb_run L[j] M[j] W
        unfold encLb at hq
        have hbe : (L[j].1 == M[j].1 && L[j].2 == M[j].2) = decide (L[j] = M[j]) := lb_eq L[j] M[j]
        by_cases hx : L[j] = M[j]
        · have hnext := Lib.hid (show L.take (j + 1) = M.take (j + 1) by rw [hta, htb, hpre, hx])
          have f1 : decide (L[j] = M[j]) = true := by simpa using hx
          rw [f1] at hq hbe
          clear hta htb hpre hx d1 d2 d1' d2' x1 x2 f1
          generalize L[j] = y at *
          generalize M[j] = z at *
          go_wp2_with fail
          go_quiet (fail)
          go_wp2
          go_roundw
          case rel => exact ⟨j + 1, by omega, by go_num, hnext.out, below_drewN hbw _⟩
          case measure => simp [intOf]; omega
        · have hd : decide (L = M) = false := by
            simp only [decide_eq_false_iff_not]
            intro e
            subst e
            exact hx rfl
          have HD := Lib.hid hd
          have f1 : decide (L[j] = M[j]) = false := by simpa using hx
          rw [f1] at hq hbe
          clear hd hta htb hpre hx d1 d2 d1' d2' x1 x2 f1
          generalize L[j] = y at *
          generalize M[j] = z at *
          go_wp2_with fail
          go_quiet (fail)
          go_wp2
          go_ret
          exact ⟨by rw [HD.out]; rfl, below_drewN hbw _⟩
      · have hab : L = M := by
          rw [List.take_of_length_le (by rw [hnA.out]; omega), List.take_of_length_le (by rw [← hnB.out]; omega)] at hpre
          exact hpre
        have hd : decide (L = M) = true := by simpa using hab
        have HD := Lib.hid hd
        clear hd hab hpre
        go_wp2
        go_ret
        exact ⟨by rw [HD.out]; rfl, hbw⟩
  · have hne : ((L.length : Int) == (M.length : Int)) = false := by simp; omega
    have hne2 : ((L.length : Int) != (M.length : Int)) = true := by simp; omega
    have hd : decide (L = M) = false := by
      simp only [decide_eq_false_iff_not]
      intro e
      exact hlen (by rw [e])
    rw [hd]
    go_enter Tryz.func41, Tryz.ntmps41
    go_wp2
    go_ret
    exact ⟨rfl, Below.refl _ _⟩
end Go.Proofs.YtpeahjocimhneaaGreatDoor
namespace Go.Proofs.YtpeahjocimhneaaGreatDoor
open Go.RowKit Go.Maps Go.WideMaps
attribute [local go_sem] bs_toList bs_size

/-- Labels, each behind the one before it. -/
def rightFrom (p : Option (List UInt8)) : List Lb → Bool
  | [] => true
  | x :: l => nameR x.1 && (valueR x.2 && ((match p with | none => true | some q => Op.bytesLess q x.1) && rightFrom (some x.1) l))
theorem gt_bl (a b : List UInt8) : gtB a b = Op.bytesLess b a := by
  rw [Bool.eq_iff_iff]
  refine ⟨gt_less, fun h => ?_⟩
  unfold gtB
  rw [bl_asymm h]
  have : a ≠ b := fun e => by rw [e, bl_irrefl] at h; cases h
  simpa using this
theorem right_chk : ∀ (L : List Lb) (q : List UInt8), rightFrom (some q) L = chkFrom q L
  | [], _ => rfl
  | x :: l, q => by
    unfold rightFrom chkFrom
    dsimp only
    rw [right_chk l x.1, gt_bl, name_all, value_all]
    cases allB x.1 2 <;> cases allB (x.1.take 1) 1 <;> cases allB x.2 4 <;> cases Op.bytesLess q x.1 <;> cases chkFrom x.1 l <;> rfl
theorem right_none (L : List Lb) : rightFrom none L = chkFrom [] L := by
  cases L with
  | nil => rfl
  | cons x l =>
    unfold rightFrom chkFrom
    dsimp only
    rw [right_chk l x.1, gt_bl, name_all, value_all]
    have h : allB x.1 2 = true → Op.bytesLess [] x.1 = true := fun h => by
      cases hx : x.1 with
      | nil => rw [hx] at h; cases h
      | cons a r => rfl
    cases ha : allB x.1 2 with
    | false => cases Op.bytesLess [] x.1 <;> simp
    | true =>
      rw [h ha]
      cases allB (x.1.take 1) 1 <;> cases allB x.2 4 <;> cases chkFrom x.1 l <;> rfl
def prevN (L : List Lb) (k : Nat) : Option (List UInt8) := if k = 0 then none else some (L.getD (k - 1) ([], [])).1
theorem prevN_succ {L : List Lb} {k : Nat} (h : k < L.length) : prevN L (k + 1) = some L[k].1 := by
  unfold prevN
  rw [if_neg (by omega), Nat.add_sub_cancel, List.getD_eq_getElem?_getD, List.getElem?_eq_getElem h]
  rfl
theorem right_step {L : List Lb} {k : Nat} (h : k < L.length) : rightFrom (prevN L k) (L.drop k) = (nameR L[k].1 && (valueR L[k].2 && ((match prevN L k with | none => true | some q => Op.bytesLess q L[k].1) && rightFrom (prevN L (k + 1)) (L.drop (k + 1))))) := by
  rw [prevN_succ h, List.drop_eq_getElem_cons h]
  rfl
theorem checkE_right (L : List Lb) : decide (checkE L = 0) = (rightFrom none L && (!L.isEmpty && decide (L.length ≤ 6))) := by
  rw [right_none]
  unfold checkE
  split
  · rename_i h; rw [h]; rfl
  · rename_i h
    have : (chkFrom [] L && (!L.isEmpty && decide (L.length ≤ 6))) = false := by simpa using h
    rw [this]
    rfl
set_option maxRecDepth 100000 in
set_option maxHeartbeats 2000000 in
theorem RRight_any (L : List Lb) (v : Value) (w : World) (h : LabsAt w v L) :
    Calls Tryz.prog 36 #[v] w fun e w' => e = .returned (.bool (decide (checkE L = 0))) ∧ Below w.heap.size w w' := by
  obtain ⟨a, c, rfl, hn, hc⟩ := id h
  have HC := Lib.hid hc
  clear hc
  have HR0 := Lib.hid (checkE_right L)
  generalize decide (checkE L = 0) = R at *
  by_cases h1 : L.length < 1
  · have f1 : decide (L.length < 1) = true := by simpa using h1
    have f1' : decide ((L.length : Int) < 1) = true := by simp; omega
    have hL : L = [] := List.length_eq_zero_iff.1 (by omega)
    have HF := Lib.hid (show R = false by rw [HR0.out, hL]; rfl)
    clear HR0 h1 hL
    go_enter Tryz.func36, Tryz.ntmps36
    go_wp2_with fail
    go_ret
    exact ⟨by rw [HF.out]; rfl, Below.refl _ _⟩
  have f1 : decide (L.length < 1) = false := by simpa using h1
  have f1' : decide ((L.length : Int) < 1) = false := by simp; omega
  by_cases h2 : 6 < L.length
  · have f2 : decide (6 < L.length) = true := by simpa using h2
    have f2' : decide ((6 : Int) < (L.length : Int)) = true := by simp; omega
    have HF := Lib.hid (show R = false by rw [HR0.out, show decide (L.length ≤ 6) = false by simp; omega]; simp)
    clear HR0 h1 h2
    go_enter Tryz.func36, Tryz.ntmps36
    go_wp2_with fail
    go_ret
    exact ⟨by rw [HF.out]; rfl, Below.refl _ _⟩
  have f2 : decide (6 < L.length) = false := by simpa using h2
  have f2' : decide ((6 : Int) < (L.length : Int)) = false := by simp; omega
  have H0 := Lib.hid (show R = rightFrom (prevN L 0) (L.drop 0) by
    rw [HR0.out, show decide (L.length ≤ 6) = true by simp; omega]
    have : L.isEmpty = false := by cases L with
      | nil => simp at h1
      | cons _ _ => rfl
    rw [this]
    simp [prevN])
  clear HR0 h1
  go_enter Tryz.func36, Tryz.ntmps36
  go_wp2_with fail
  clear f1 f1' f2 f2'
  go_loopw [3] (fun vi wr => ∃ k : Nat, k ≤ L.length ∧ vi = .int .i64 (k : Int) ∧ Hid (R = rightFrom (prevN L k) (L.drop k)) ∧ Below w.heap.size w wr) (fun vi _ => L.length - (intOf vi).toNat)
  case atStart => exact ⟨0, Nat.zero_le _, rfl, H0, Below.refl _ _⟩
  clear H0
  obtain ⟨k, hk, rfl, HR, hb⟩ := hrel
  rcases (show k < L.length ∨ k = L.length by omega) with hkl | hkN
  · obtain ⟨hx1, hx2, b, o, rfl, d0, d1⟩ := HC.out k _ (List.getElem?_eq_getElem hkl)
    have e0 := grow_cell ((hb.cell (World.block_lt_of_cell? _ _ d0)).trans d0)
    have e1 := grow_cell ((hb.cell (World.block_lt_of_cell? _ _ d1)).trans d1)
    have HS := Lib.hid (HR.out.trans (right_step hkl))
    have HP : Hid (∀ pk, prevN L k = some pk → 0 < k ∧ pk.length ≤ 1048576 ∧ ∀ W, Below w.heap.size w W → W.cell? ⟨b, o + (k - 1) * 2, none⟩ = some (.string (bs pk))) := Lib.hid (fun pk hp => by
      unfold prevN at hp
      split at hp
      · cases hp
      · rename_i hk0
        have hk1 : k - 1 < L.length := by omega
        obtain ⟨l1, _, b', o', e', d0', _⟩ := HC.out (k - 1) _ (List.getElem?_eq_getElem hk1)
        have e' := Option.some.inj e'
        simp only [Addr.mk.injEq] at e'
        obtain ⟨rfl, rfl, _⟩ := e'
        rw [List.getD_eq_getElem?_getD, List.getElem?_eq_getElem hk1] at hp
        have hp : L[k - 1].1 = pk := by simpa using hp
        subst hp
        exact ⟨by omega, l1, fun W hW => (hW.cell (World.block_lt_of_cell? _ _ d0')).trans d0'⟩)
    have HK : Hid (prevN L k = none → k = 0) := Lib.hid (fun hp => by unfold prevN at hp; split at hp; assumption; cases hp)
    clear d0 d1 HC HR
    have HTT := Lib.hid (rfl : rightFrom (prevN L (k + 1)) (L.drop (k + 1)) = rightFrom (prevN L (k + 1)) (L.drop (k + 1)))
    obtain ⟨T, hT⟩ : ∃ T, rightFrom (prevN L (k + 1)) (L.drop (k + 1)) = T := ⟨_, rfl⟩
    rw [hT] at HS
    have HT := Lib.hid hT
    clear hT HTT
    generalize L[k] = x at *
    obtain ⟨xn, xv⟩ := x
    simp only at e0 e1 HS hx1 hx2
    have QN := Lib.hid (fun W => RName_any xn W (by omega))
    have QV := Lib.hid (fun W => RValue_any xv W (by omega))
    generalize nameR xn = bN at *
    generalize valueR xv = bV at *
    cases bN with
    | false =>
      have HF := Lib.hid (show R = false by rw [HS.out]; rfl)
      clear HS QV HP HK
      go_wp2_with fail
      refine wp_region_at (R := GrowR) (by kernel_rfl) (by kernel_rfl) ?_
      (try dsimp only)
      (refine lex_one (by kernel_rfl) (by kernel_rfl) (by kernel_rfl) (fun K hK => ?_); go_big_quiet_step (fail); refine wpQuiet_nil (hK _ ?_); clear hK K); (refine lex_one (by kernel_rfl) (by kernel_rfl) (by kernel_rfl) (fun K hK => ?_); go_big_quiet_step (fail); refine wpQuiet_nil (hK _ ?_); clear hK K); (refine lex_one (by kernel_rfl) (by kernel_rfl) (by kernel_rfl) (fun K hK => ?_); go_big_quiet_step (fail); refine wpQuiet_nil (hK _ ?_); clear hK K); (refine lex_one (by kernel_rfl) (by kernel_rfl) (by kernel_rfl) (fun K hK => ?_); go_big_quiet_step (fail); refine wpQuiet_nil (hK _ ?_); clear hK K); (refine lex_one (by kernel_rfl) (by kernel_rfl) (by kernel_rfl) (fun K hK => ?_); go_big_quiet_step (fail); refine wpQuiet_nil (hK _ ?_); clear hK K)
      (refine lex_call (f := 81) (args := #[.string (bs xn)]) (v := .bool false) (by kernel_rfl) (fun _ _ h => by cases h) (by kernel_rfl) (by kernel_rfl) (fun _ => by go_simp) (fun W hW => QN.out W) (lex_put (type := 0) (pos := "") (fun K hK => ?_)); go_big_quiet_step (fail); refine wpQuiet_nil (hK _ ?_); clear hK K)
      (refine lex_one (by kernel_rfl) (by kernel_rfl) (by kernel_rfl) (fun K hK => ?_); go_big_quiet_step (fail); refine wpQuiet_nil (hK _ ?_); clear hK K); (refine lex_one (by kernel_rfl) (by kernel_rfl) (by kernel_rfl) (fun K hK => ?_); go_big_quiet_step (fail); refine wpQuiet_nil (hK _ ?_); clear hK K)
      (refine lex_none (by kernel_rfl) (by kernel_rfl) (by kernel_rfl) (fun K hK => ?_); go_big_quiet_step (fail); refine wpQuiet_nil (hK _ ?_); clear hK K); (refine lex_none (by kernel_rfl) (by kernel_rfl) (by kernel_rfl) (fun K hK => ?_); go_big_quiet_step (fail); refine wpQuiet_nil (hK _ ?_); clear hK K); (refine lex_none (by kernel_rfl) (by kernel_rfl) (by kernel_rfl) (fun K hK => ?_); go_big_quiet_step (fail); refine wpQuiet_nil (hK _ ?_); clear hK K); (refine lex_none (by kernel_rfl) (by kernel_rfl) (by kernel_rfl) (fun K hK => ?_); go_big_quiet_step (fail); refine wpQuiet_nil (hK _ ?_); clear hK K); (refine lex_none (by kernel_rfl) (by kernel_rfl) (by kernel_rfl) (fun K hK => ?_); go_big_quiet_step (fail); refine wpQuiet_nil (hK _ ?_); clear hK K); (refine lex_none (by kernel_rfl) (by kernel_rfl) (by kernel_rfl) (fun K hK => ?_); go_big_quiet_step (fail); refine wpQuiet_nil (hK _ ?_); clear hK K); (refine lex_none (by kernel_rfl) (by kernel_rfl) (by kernel_rfl) (fun K hK => ?_); go_big_quiet_step (fail); refine wpQuiet_nil (hK _ ?_); clear hK K)
      (refine lex_one (by kernel_rfl) (by kernel_rfl) (by kernel_rfl) (fun K hK => ?_); go_big_quiet_step (fail); refine wpQuiet_nil (hK _ ?_); clear hK K); (refine lex_one (by kernel_rfl) (by kernel_rfl) (by kernel_rfl) (fun K hK => ?_); go_big_quiet_step (fail); refine wpQuiet_nil (hK _ ?_); clear hK K)
      (refine lex_none (by kernel_rfl) (by kernel_rfl) (by kernel_rfl) (fun K hK => ?_); go_big_quiet_step (fail); refine wpQuiet_nil (hK _ ?_); clear hK K); (refine lex_none (by kernel_rfl) (by kernel_rfl) (by kernel_rfl) (fun K hK => ?_); go_big_quiet_step (fail); refine wpQuiet_nil (hK _ ?_); clear hK K); (refine lex_none (by kernel_rfl) (by kernel_rfl) (by kernel_rfl) (fun K hK => ?_); go_big_quiet_step (fail); refine wpQuiet_nil (hK _ ?_); clear hK K); (refine lex_none (by kernel_rfl) (by kernel_rfl) (by kernel_rfl) (fun K hK => ?_); go_big_quiet_step (fail); refine wpQuiet_nil (hK _ ?_); clear hK K); (refine lex_none (by kernel_rfl) (by kernel_rfl) (by kernel_rfl) (fun K hK => ?_); go_big_quiet_step (fail); refine wpQuiet_nil (hK _ ?_); clear hK K); (refine lex_none (by kernel_rfl) (by kernel_rfl) (by kernel_rfl) (fun K hK => ?_); go_big_quiet_step (fail); refine wpQuiet_nil (hK _ ?_); clear hK K); (refine lex_none (by kernel_rfl) (by kernel_rfl) (by kernel_rfl) (fun K hK => ?_); go_big_quiet_step (fail); refine wpQuiet_nil (hK _ ?_); clear hK K); (refine lex_none (by kernel_rfl) (by kernel_rfl) (by kernel_rfl) (fun K hK => ?_); go_big_quiet_step (fail); refine wpQuiet_nil (hK _ ?_); clear hK K); (refine lex_none (by kernel_rfl) (by kernel_rfl) (by kernel_rfl) (fun K hK => ?_); go_big_quiet_step (fail); refine wpQuiet_nil (hK _ ?_); clear hK K); (refine lex_none (by kernel_rfl) (by kernel_rfl) (by kernel_rfl) (fun K hK => ?_); go_big_quiet_step (fail); refine wpQuiet_nil (hK _ ?_); clear hK K); (refine lex_none (by kernel_rfl) (by kernel_rfl) (by kernel_rfl) (fun K hK => ?_); go_big_quiet_step (fail); refine wpQuiet_nil (hK _ ?_); clear hK K); (refine lex_none (by kernel_rfl) (by kernel_rfl) (by kernel_rfl) (fun K hK => ?_); go_big_quiet_step (fail); refine wpQuiet_nil (hK _ ?_); clear hK K); (refine lex_none (by kernel_rfl) (by kernel_rfl) (by kernel_rfl) (fun K hK => ?_); go_big_quiet_step (fail); refine wpQuiet_nil (hK _ ?_); clear hK K); (refine lex_none (by kernel_rfl) (by kernel_rfl) (by kernel_rfl) (fun K hK => ?_); go_big_quiet_step (fail); refine wpQuiet_nil (hK _ ?_); clear hK K); (refine lex_none (by kernel_rfl) (by kernel_rfl) (by kernel_rfl) (fun K hK => ?_); go_big_quiet_step (fail); refine wpQuiet_nil (hK _ ?_); clear hK K); (refine lex_none (by kernel_rfl) (by kernel_rfl) (by kernel_rfl) (fun K hK => ?_); go_big_quiet_step (fail); refine wpQuiet_nil (hK _ ?_); clear hK K); (refine lex_none (by kernel_rfl) (by kernel_rfl) (by kernel_rfl) (fun K hK => ?_); go_big_quiet_step (fail); refine wpQuiet_nil (hK _ ?_); clear hK K)
      (refine lex_one (by kernel_rfl) (by kernel_rfl) (by kernel_rfl) (fun K hK => ?_); go_big_quiet_step (fail); refine wpQuiet_nil (hK _ ?_); clear hK K)
      refine lex_nil (by kernel_rfl) (by kernel_rfl) (by kernel_rfl) ?_
      intro W9 hb9
      simp only [hideAll]
      have hb9' : Below w.heap.size w W9 := hb.trans (Below.mono hb9 hb.size)
      go_wp2_with fail
      go_ret
      exact ⟨by rw [HF.out]; rfl, hb9'⟩
    | true =>
      cases bV with
      | false =>
        have HF := Lib.hid (show R = false by rw [HS.out]; rfl)
        clear HS HP HK
        go_wp2_with fail
        refine wp_region_at (R := GrowR) (by kernel_rfl) (by kernel_rfl) ?_
        (try dsimp only)
        (refine lex_one (by kernel_rfl) (by kernel_rfl) (by kernel_rfl) (fun K hK => ?_); go_big_quiet_step (fail); refine wpQuiet_nil (hK _ ?_); clear hK K); (refine lex_one (by kernel_rfl) (by kernel_rfl) (by kernel_rfl) (fun K hK => ?_); go_big_quiet_step (fail); refine wpQuiet_nil (hK _ ?_); clear hK K); (refine lex_one (by kernel_rfl) (by kernel_rfl) (by kernel_rfl) (fun K hK => ?_); go_big_quiet_step (fail); refine wpQuiet_nil (hK _ ?_); clear hK K); (refine lex_one (by kernel_rfl) (by kernel_rfl) (by kernel_rfl) (fun K hK => ?_); go_big_quiet_step (fail); refine wpQuiet_nil (hK _ ?_); clear hK K); (refine lex_one (by kernel_rfl) (by kernel_rfl) (by kernel_rfl) (fun K hK => ?_); go_big_quiet_step (fail); refine wpQuiet_nil (hK _ ?_); clear hK K)
        (refine lex_call (f := 81) (args := #[.string (bs xn)]) (v := .bool true) (by kernel_rfl) (fun _ _ h => by cases h) (by kernel_rfl) (by kernel_rfl) (fun _ => by go_simp) (fun W hW => QN.out W) (lex_put (type := 0) (pos := "") (fun K hK => ?_)); go_big_quiet_step (fail); refine wpQuiet_nil (hK _ ?_); clear hK K)
        (refine lex_one (by kernel_rfl) (by kernel_rfl) (by kernel_rfl) (fun K hK => ?_); go_big_quiet_step (fail); refine wpQuiet_nil (hK _ ?_); clear hK K); (refine lex_one (by kernel_rfl) (by kernel_rfl) (by kernel_rfl) (fun K hK => ?_); go_big_quiet_step (fail); refine wpQuiet_nil (hK _ ?_); clear hK K); (refine lex_one (by kernel_rfl) (by kernel_rfl) (by kernel_rfl) (fun K hK => ?_); go_big_quiet_step (fail); refine wpQuiet_nil (hK _ ?_); clear hK K); (refine lex_one (by kernel_rfl) (by kernel_rfl) (by kernel_rfl) (fun K hK => ?_); go_big_quiet_step (fail); refine wpQuiet_nil (hK _ ?_); clear hK K); (refine lex_one (by kernel_rfl) (by kernel_rfl) (by kernel_rfl) (fun K hK => ?_); go_big_quiet_step (fail); refine wpQuiet_nil (hK _ ?_); clear hK K); (refine lex_one (by kernel_rfl) (by kernel_rfl) (by kernel_rfl) (fun K hK => ?_); go_big_quiet_step (fail); refine wpQuiet_nil (hK _ ?_); clear hK K); (refine lex_one (by kernel_rfl) (by kernel_rfl) (by kernel_rfl) (fun K hK => ?_); go_big_quiet_step (fail); refine wpQuiet_nil (hK _ ?_); clear hK K)
        (refine lex_call (f := 82) (args := #[.string (bs xv)]) (v := .bool false) (by kernel_rfl) (fun _ _ h => by cases h) (by kernel_rfl) (by kernel_rfl) (fun _ => by go_simp) (fun W hW => QV.out W) (lex_put (type := 0) (pos := "") (fun K hK => ?_)); go_big_quiet_step (fail); refine wpQuiet_nil (hK _ ?_); clear hK K)
        (refine lex_one (by kernel_rfl) (by kernel_rfl) (by kernel_rfl) (fun K hK => ?_); go_big_quiet_step (fail); refine wpQuiet_nil (hK _ ?_); clear hK K); (refine lex_one (by kernel_rfl) (by kernel_rfl) (by kernel_rfl) (fun K hK => ?_); go_big_quiet_step (fail); refine wpQuiet_nil (hK _ ?_); clear hK K); (refine lex_one (by kernel_rfl) (by kernel_rfl) (by kernel_rfl) (fun K hK => ?_); go_big_quiet_step (fail); refine wpQuiet_nil (hK _ ?_); clear hK K)
        (refine lex_none (by kernel_rfl) (by kernel_rfl) (by kernel_rfl) (fun K hK => ?_); go_big_quiet_step (fail); refine wpQuiet_nil (hK _ ?_); clear hK K); (refine lex_none (by kernel_rfl) (by kernel_rfl) (by kernel_rfl) (fun K hK => ?_); go_big_quiet_step (fail); refine wpQuiet_nil (hK _ ?_); clear hK K); (refine lex_none (by kernel_rfl) (by kernel_rfl) (by kernel_rfl) (fun K hK => ?_); go_big_quiet_step (fail); refine wpQuiet_nil (hK _ ?_); clear hK K); (refine lex_none (by kernel_rfl) (by kernel_rfl) (by kernel_rfl) (fun K hK => ?_); go_big_quiet_step (fail); refine wpQuiet_nil (hK _ ?_); clear hK K); (refine lex_none (by kernel_rfl) (by kernel_rfl) (by kernel_rfl) (fun K hK => ?_); go_big_quiet_step (fail); refine wpQuiet_nil (hK _ ?_); clear hK K); (refine lex_none (by kernel_rfl) (by kernel_rfl) (by kernel_rfl) (fun K hK => ?_); go_big_quiet_step (fail); refine wpQuiet_nil (hK _ ?_); clear hK K); (refine lex_none (by kernel_rfl) (by kernel_rfl) (by kernel_rfl) (fun K hK => ?_); go_big_quiet_step (fail); refine wpQuiet_nil (hK _ ?_); clear hK K); (refine lex_none (by kernel_rfl) (by kernel_rfl) (by kernel_rfl) (fun K hK => ?_); go_big_quiet_step (fail); refine wpQuiet_nil (hK _ ?_); clear hK K); (refine lex_none (by kernel_rfl) (by kernel_rfl) (by kernel_rfl) (fun K hK => ?_); go_big_quiet_step (fail); refine wpQuiet_nil (hK _ ?_); clear hK K); (refine lex_none (by kernel_rfl) (by kernel_rfl) (by kernel_rfl) (fun K hK => ?_); go_big_quiet_step (fail); refine wpQuiet_nil (hK _ ?_); clear hK K); (refine lex_none (by kernel_rfl) (by kernel_rfl) (by kernel_rfl) (fun K hK => ?_); go_big_quiet_step (fail); refine wpQuiet_nil (hK _ ?_); clear hK K); (refine lex_none (by kernel_rfl) (by kernel_rfl) (by kernel_rfl) (fun K hK => ?_); go_big_quiet_step (fail); refine wpQuiet_nil (hK _ ?_); clear hK K); (refine lex_none (by kernel_rfl) (by kernel_rfl) (by kernel_rfl) (fun K hK => ?_); go_big_quiet_step (fail); refine wpQuiet_nil (hK _ ?_); clear hK K); (refine lex_none (by kernel_rfl) (by kernel_rfl) (by kernel_rfl) (fun K hK => ?_); go_big_quiet_step (fail); refine wpQuiet_nil (hK _ ?_); clear hK K); (refine lex_none (by kernel_rfl) (by kernel_rfl) (by kernel_rfl) (fun K hK => ?_); go_big_quiet_step (fail); refine wpQuiet_nil (hK _ ?_); clear hK K); (refine lex_none (by kernel_rfl) (by kernel_rfl) (by kernel_rfl) (fun K hK => ?_); go_big_quiet_step (fail); refine wpQuiet_nil (hK _ ?_); clear hK K); (refine lex_none (by kernel_rfl) (by kernel_rfl) (by kernel_rfl) (fun K hK => ?_); go_big_quiet_step (fail); refine wpQuiet_nil (hK _ ?_); clear hK K)
        (refine lex_one (by kernel_rfl) (by kernel_rfl) (by kernel_rfl) (fun K hK => ?_); go_big_quiet_step (fail); refine wpQuiet_nil (hK _ ?_); clear hK K)
        refine lex_nil (by kernel_rfl) (by kernel_rfl) (by kernel_rfl) ?_
        intro W9 hb9
        simp only [hideAll]
        have hb9' : Below w.heap.size w W9 := hb.trans (Below.mono hb9 hb.size)
        go_wp2_with fail
        go_ret
        exact ⟨by rw [HF.out]; rfl, hb9'⟩
      | true =>
        rcases hp : prevN L k with _ | pn
        · have hk0 := HK.out hp
          rw [hp] at HS
          subst hk0
          simp only [Nat.zero_mul, Nat.add_zero] at e0 e1
          have HF2 := Lib.hid (show R = rightFrom (prevN L (0 + 1)) (L.drop (0 + 1)) by rw [HS.out, HT.out]; rfl)
          clear HS HP HK hp HT
          go_wp2_with fail
          refine wp_region_at (R := GrowR) (by kernel_rfl) (by kernel_rfl) ?_
          (try dsimp only)
          (refine lex_one (by kernel_rfl) (by kernel_rfl) (by kernel_rfl) (fun K hK => ?_); go_big_quiet_step (fail); refine wpQuiet_nil (hK _ ?_); clear hK K); (refine lex_one (by kernel_rfl) (by kernel_rfl) (by kernel_rfl) (fun K hK => ?_); go_big_quiet_step (fail); refine wpQuiet_nil (hK _ ?_); clear hK K); (refine lex_one (by kernel_rfl) (by kernel_rfl) (by kernel_rfl) (fun K hK => ?_); go_big_quiet_step (fail); refine wpQuiet_nil (hK _ ?_); clear hK K); (refine lex_one (by kernel_rfl) (by kernel_rfl) (by kernel_rfl) (fun K hK => ?_); go_big_quiet_step (fail); refine wpQuiet_nil (hK _ ?_); clear hK K); (refine lex_one (by kernel_rfl) (by kernel_rfl) (by kernel_rfl) (fun K hK => ?_); go_big_quiet_step (fail); refine wpQuiet_nil (hK _ ?_); clear hK K)
          (refine lex_call (f := 81) (args := #[.string (bs xn)]) (v := .bool true) (by kernel_rfl) (fun _ _ h => by cases h) (by kernel_rfl) (by kernel_rfl) (fun _ => by go_simp) (fun W hW => QN.out W) (lex_put (type := 0) (pos := "") (fun K hK => ?_)); go_big_quiet_step (fail); refine wpQuiet_nil (hK _ ?_); clear hK K)
          (refine lex_one (by kernel_rfl) (by kernel_rfl) (by kernel_rfl) (fun K hK => ?_); go_big_quiet_step (fail); refine wpQuiet_nil (hK _ ?_); clear hK K); (refine lex_one (by kernel_rfl) (by kernel_rfl) (by kernel_rfl) (fun K hK => ?_); go_big_quiet_step (fail); refine wpQuiet_nil (hK _ ?_); clear hK K); (refine lex_one (by kernel_rfl) (by kernel_rfl) (by kernel_rfl) (fun K hK => ?_); go_big_quiet_step (fail); refine wpQuiet_nil (hK _ ?_); clear hK K); (refine lex_one (by kernel_rfl) (by kernel_rfl) (by kernel_rfl) (fun K hK => ?_); go_big_quiet_step (fail); refine wpQuiet_nil (hK _ ?_); clear hK K); (refine lex_one (by kernel_rfl) (by kernel_rfl) (by kernel_rfl) (fun K hK => ?_); go_big_quiet_step (fail); refine wpQuiet_nil (hK _ ?_); clear hK K); (refine lex_one (by kernel_rfl) (by kernel_rfl) (by kernel_rfl) (fun K hK => ?_); go_big_quiet_step (fail); refine wpQuiet_nil (hK _ ?_); clear hK K); (refine lex_one (by kernel_rfl) (by kernel_rfl) (by kernel_rfl) (fun K hK => ?_); go_big_quiet_step (fail); refine wpQuiet_nil (hK _ ?_); clear hK K)
          (refine lex_call (f := 82) (args := #[.string (bs xv)]) (v := .bool true) (by kernel_rfl) (fun _ _ h => by cases h) (by kernel_rfl) (by kernel_rfl) (fun _ => by go_simp) (fun W hW => QV.out W) (lex_put (type := 0) (pos := "") (fun K hK => ?_)); go_big_quiet_step (fail); refine wpQuiet_nil (hK _ ?_); clear hK K)
          (refine lex_one (by kernel_rfl) (by kernel_rfl) (by kernel_rfl) (fun K hK => ?_); go_big_quiet_step (fail); refine wpQuiet_nil (hK _ ?_); clear hK K); (refine lex_one (by kernel_rfl) (by kernel_rfl) (by kernel_rfl) (fun K hK => ?_); go_big_quiet_step (fail); refine wpQuiet_nil (hK _ ?_); clear hK K); (refine lex_one (by kernel_rfl) (by kernel_rfl) (by kernel_rfl) (fun K hK => ?_); go_big_quiet_step (fail); refine wpQuiet_nil (hK _ ?_); clear hK K); (refine lex_one (by kernel_rfl) (by kernel_rfl) (by kernel_rfl) (fun K hK => ?_); go_big_quiet_step (fail); refine wpQuiet_nil (hK _ ?_); clear hK K); (refine lex_one (by kernel_rfl) (by kernel_rfl) (by kernel_rfl) (fun K hK => ?_); go_big_quiet_step (fail); refine wpQuiet_nil (hK _ ?_); clear hK K); (refine lex_one (by kernel_rfl) (by kernel_rfl) (by kernel_rfl) (fun K hK => ?_); go_big_quiet_step (fail); refine wpQuiet_nil (hK _ ?_); clear hK K)
          (refine lex_none (by kernel_rfl) (by kernel_rfl) (by kernel_rfl) (fun K hK => ?_); go_big_quiet_step (fail); refine wpQuiet_nil (hK _ ?_); clear hK K); (refine lex_none (by kernel_rfl) (by kernel_rfl) (by kernel_rfl) (fun K hK => ?_); go_big_quiet_step (fail); refine wpQuiet_nil (hK _ ?_); clear hK K); (refine lex_none (by kernel_rfl) (by kernel_rfl) (by kernel_rfl) (fun K hK => ?_); go_big_quiet_step (fail); refine wpQuiet_nil (hK _ ?_); clear hK K); (refine lex_none (by kernel_rfl) (by kernel_rfl) (by kernel_rfl) (fun K hK => ?_); go_big_quiet_step (fail); refine wpQuiet_nil (hK _ ?_); clear hK K); (refine lex_none (by kernel_rfl) (by kernel_rfl) (by kernel_rfl) (fun K hK => ?_); go_big_quiet_step (fail); refine wpQuiet_nil (hK _ ?_); clear hK K); (refine lex_none (by kernel_rfl) (by kernel_rfl) (by kernel_rfl) (fun K hK => ?_); go_big_quiet_step (fail); refine wpQuiet_nil (hK _ ?_); clear hK K); (refine lex_none (by kernel_rfl) (by kernel_rfl) (by kernel_rfl) (fun K hK => ?_); go_big_quiet_step (fail); refine wpQuiet_nil (hK _ ?_); clear hK K); (refine lex_none (by kernel_rfl) (by kernel_rfl) (by kernel_rfl) (fun K hK => ?_); go_big_quiet_step (fail); refine wpQuiet_nil (hK _ ?_); clear hK K); (refine lex_none (by kernel_rfl) (by kernel_rfl) (by kernel_rfl) (fun K hK => ?_); go_big_quiet_step (fail); refine wpQuiet_nil (hK _ ?_); clear hK K); (refine lex_none (by kernel_rfl) (by kernel_rfl) (by kernel_rfl) (fun K hK => ?_); go_big_quiet_step (fail); refine wpQuiet_nil (hK _ ?_); clear hK K); (refine lex_none (by kernel_rfl) (by kernel_rfl) (by kernel_rfl) (fun K hK => ?_); go_big_quiet_step (fail); refine wpQuiet_nil (hK _ ?_); clear hK K); (refine lex_none (by kernel_rfl) (by kernel_rfl) (by kernel_rfl) (fun K hK => ?_); go_big_quiet_step (fail); refine wpQuiet_nil (hK _ ?_); clear hK K); (refine lex_none (by kernel_rfl) (by kernel_rfl) (by kernel_rfl) (fun K hK => ?_); go_big_quiet_step (fail); refine wpQuiet_nil (hK _ ?_); clear hK K)
          (refine lex_one (by kernel_rfl) (by kernel_rfl) (by kernel_rfl) (fun K hK => ?_); go_big_quiet_step (fail); refine wpQuiet_nil (hK _ ?_); clear hK K); (refine lex_one (by kernel_rfl) (by kernel_rfl) (by kernel_rfl) (fun K hK => ?_); go_big_quiet_step (fail); refine wpQuiet_nil (hK _ ?_); clear hK K)
          refine lex_nil (by kernel_rfl) (by kernel_rfl) (by kernel_rfl) ?_
          intro W9 hb9
          simp only [hideAll]
          have hb9' : Below w.heap.size w W9 := hb.trans (Below.mono hb9 hb.size)
          go_wp2_with fail
          go_roundw
          case rel => exact ⟨1, by omega, rfl, HF2, hb9'⟩
          case measure => simp [intOf]; omega
        · obtain ⟨hk0, hpl, hpc⟩ := HP.out pn hp
          rw [hp] at HS
          have HS := Lib.hid (show R = (true && (true && (Op.bytesLess pn xn && T))) from HS.out)
          have g0 := grow_cell (hpc wr hb)
          have QA := Lib.hid (fun W => Ahead_any pn xn W (by omega))
          have f0 : decide ((0 : Int) < (k : Int)) = true := by simp; omega
          have f0' : decide (0 < k) = true := by simp; omega
          have hw : IntKind.i64.wrap ((k : Int) - 1) = ((k - 1 : Nat) : Int) := by simp [IntKind.wrap, IntKind.bits, IntKind.signed]; omega
          clear HP HK hp hpc
          generalize Op.bytesLess pn xn = bA at *
          cases bA with
          | false =>
            have HF := Lib.hid (show R = false by rw [HS.out]; rfl)
            clear HS
            go_wp2_with fail
            refine wp_region_at (R := GrowR) (by kernel_rfl) (by kernel_rfl) ?_
            (try dsimp only)
            (refine lex_one (by kernel_rfl) (by kernel_rfl) (by kernel_rfl) (fun K hK => ?_); go_big_quiet_step (fail); refine wpQuiet_nil (hK _ ?_); clear hK K); (refine lex_one (by kernel_rfl) (by kernel_rfl) (by kernel_rfl) (fun K hK => ?_); go_big_quiet_step (fail); refine wpQuiet_nil (hK _ ?_); clear hK K); (refine lex_one (by kernel_rfl) (by kernel_rfl) (by kernel_rfl) (fun K hK => ?_); go_big_quiet_step (fail); refine wpQuiet_nil (hK _ ?_); clear hK K); (refine lex_one (by kernel_rfl) (by kernel_rfl) (by kernel_rfl) (fun K hK => ?_); go_big_quiet_step (fail); refine wpQuiet_nil (hK _ ?_); clear hK K); (refine lex_one (by kernel_rfl) (by kernel_rfl) (by kernel_rfl) (fun K hK => ?_); go_big_quiet_step (fail); refine wpQuiet_nil (hK _ ?_); clear hK K)
            (refine lex_call (f := 81) (args := #[.string (bs xn)]) (v := .bool true) (by kernel_rfl) (fun _ _ h => by cases h) (by kernel_rfl) (by kernel_rfl) (fun _ => by go_simp) (fun W hW => QN.out W) (lex_put (type := 0) (pos := "") (fun K hK => ?_)); go_big_quiet_step (fail); refine wpQuiet_nil (hK _ ?_); clear hK K)
            (refine lex_one (by kernel_rfl) (by kernel_rfl) (by kernel_rfl) (fun K hK => ?_); go_big_quiet_step (fail); refine wpQuiet_nil (hK _ ?_); clear hK K); (refine lex_one (by kernel_rfl) (by kernel_rfl) (by kernel_rfl) (fun K hK => ?_); go_big_quiet_step (fail); refine wpQuiet_nil (hK _ ?_); clear hK K); (refine lex_one (by kernel_rfl) (by kernel_rfl) (by kernel_rfl) (fun K hK => ?_); go_big_quiet_step (fail); refine wpQuiet_nil (hK _ ?_); clear hK K); (refine lex_one (by kernel_rfl) (by kernel_rfl) (by kernel_rfl) (fun K hK => ?_); go_big_quiet_step (fail); refine wpQuiet_nil (hK _ ?_); clear hK K); (refine lex_one (by kernel_rfl) (by kernel_rfl) (by kernel_rfl) (fun K hK => ?_); go_big_quiet_step (fail); refine wpQuiet_nil (hK _ ?_); clear hK K); (refine lex_one (by kernel_rfl) (by kernel_rfl) (by kernel_rfl) (fun K hK => ?_); go_big_quiet_step (fail); refine wpQuiet_nil (hK _ ?_); clear hK K); (refine lex_one (by kernel_rfl) (by kernel_rfl) (by kernel_rfl) (fun K hK => ?_); go_big_quiet_step (fail); refine wpQuiet_nil (hK _ ?_); clear hK K)
            (refine lex_call (f := 82) (args := #[.string (bs xv)]) (v := .bool true) (by kernel_rfl) (fun _ _ h => by cases h) (by kernel_rfl) (by kernel_rfl) (fun _ => by go_simp) (fun W hW => QV.out W) (lex_put (type := 0) (pos := "") (fun K hK => ?_)); go_big_quiet_step (fail); refine wpQuiet_nil (hK _ ?_); clear hK K)
            (refine lex_one (by kernel_rfl) (by kernel_rfl) (by kernel_rfl) (fun K hK => ?_); go_big_quiet_step (fail); refine wpQuiet_nil (hK _ ?_); clear hK K); (refine lex_one (by kernel_rfl) (by kernel_rfl) (by kernel_rfl) (fun K hK => ?_); go_big_quiet_step (fail); refine wpQuiet_nil (hK _ ?_); clear hK K); (refine lex_one (by kernel_rfl) (by kernel_rfl) (by kernel_rfl) (fun K hK => ?_); go_big_quiet_step (fail); refine wpQuiet_nil (hK _ ?_); clear hK K); (refine lex_one (by kernel_rfl) (by kernel_rfl) (by kernel_rfl) (fun K hK => ?_); go_big_quiet_step (fail); refine wpQuiet_nil (hK _ ?_); clear hK K); (refine lex_one (by kernel_rfl) (by kernel_rfl) (by kernel_rfl) (fun K hK => ?_); go_big_quiet_step (fail); refine wpQuiet_nil (hK _ ?_); clear hK K); (refine lex_one (by kernel_rfl) (by kernel_rfl) (by kernel_rfl) (fun K hK => ?_); go_big_quiet_step (fail); refine wpQuiet_nil (hK _ ?_); clear hK K); (refine lex_one (by kernel_rfl) (by kernel_rfl) (by kernel_rfl) (fun K hK => ?_); go_big_quiet_step (fail); refine wpQuiet_nil (hK _ ?_); clear hK K); (refine lex_one (by kernel_rfl) (by kernel_rfl) (by kernel_rfl) (fun K hK => ?_); go_big_quiet_step (fail); refine wpQuiet_nil (hK _ ?_); clear hK K); (refine lex_one (by kernel_rfl) (by kernel_rfl) (by kernel_rfl) (fun K hK => ?_); go_big_quiet_step (fail); refine wpQuiet_nil (hK _ ?_); clear hK K); (refine lex_one (by kernel_rfl) (by kernel_rfl) (by kernel_rfl) (fun K hK => ?_); go_big_quiet_step (fail); refine wpQuiet_nil (hK _ ?_); clear hK K); (refine lex_one (by kernel_rfl) (by kernel_rfl) (by kernel_rfl) (fun K hK => ?_); go_big_quiet_step (fail); refine wpQuiet_nil (hK _ ?_); clear hK K); (refine lex_one (by kernel_rfl) (by kernel_rfl) (by kernel_rfl) (fun K hK => ?_); go_big_quiet_step (fail); refine wpQuiet_nil (hK _ ?_); clear hK K); (refine lex_one (by kernel_rfl) (by kernel_rfl) (by kernel_rfl) (fun K hK => ?_); go_big_quiet_step (fail); refine wpQuiet_nil (hK _ ?_); clear hK K); (refine lex_one (by kernel_rfl) (by kernel_rfl) (by kernel_rfl) (fun K hK => ?_); go_big_quiet_step (fail); refine wpQuiet_nil (hK _ ?_); clear hK K); (refine lex_one (by kernel_rfl) (by kernel_rfl) (by kernel_rfl) (fun K hK => ?_); go_big_quiet_step (fail); refine wpQuiet_nil (hK _ ?_); clear hK K); (refine lex_one (by kernel_rfl) (by kernel_rfl) (by kernel_rfl) (fun K hK => ?_); go_big_quiet_step (fail); refine wpQuiet_nil (hK _ ?_); clear hK K); (refine lex_one (by kernel_rfl) (by kernel_rfl) (by kernel_rfl) (fun K hK => ?_); go_big_quiet_step (fail); refine wpQuiet_nil (hK _ ?_); clear hK K)
            (refine lex_call (f := 37) (args := #[.string (bs pn), .string (bs xn)]) (v := .bool false) (by kernel_rfl) (fun _ _ h => by cases h) (by kernel_rfl) (by kernel_rfl) (fun _ => by go_simp) (fun W hW => QA.out W) (lex_put (type := 0) (pos := "") (fun K hK => ?_)); go_big_quiet_step (fail); refine wpQuiet_nil (hK _ ?_); clear hK K)
            (refine lex_one (by kernel_rfl) (by kernel_rfl) (by kernel_rfl) (fun K hK => ?_); go_big_quiet_step (fail); refine wpQuiet_nil (hK _ ?_); clear hK K); (refine lex_one (by kernel_rfl) (by kernel_rfl) (by kernel_rfl) (fun K hK => ?_); go_big_quiet_step (fail); refine wpQuiet_nil (hK _ ?_); clear hK K); (refine lex_one (by kernel_rfl) (by kernel_rfl) (by kernel_rfl) (fun K hK => ?_); go_big_quiet_step (fail); refine wpQuiet_nil (hK _ ?_); clear hK K)
            refine lex_nil (by kernel_rfl) (by kernel_rfl) (by kernel_rfl) ?_
            intro W9 hb9
            simp only [hideAll]
            have hb9' : Below w.heap.size w W9 := hb.trans (Below.mono hb9 hb.size)
            go_wp2_with fail
            go_ret
            exact ⟨by rw [HF.out]; rfl, hb9'⟩
          | true =>
            have HF2 := Lib.hid (show R = rightFrom (prevN L (k + 1)) (L.drop (k + 1)) by rw [HS.out, HT.out]; rfl)
            clear HS HT
            go_wp2_with fail
            refine wp_region_at (R := GrowR) (by kernel_rfl) (by kernel_rfl) ?_
            (try dsimp only)
            (refine lex_one (by kernel_rfl) (by kernel_rfl) (by kernel_rfl) (fun K hK => ?_); go_big_quiet_step (fail); refine wpQuiet_nil (hK _ ?_); clear hK K); (refine lex_one (by kernel_rfl) (by kernel_rfl) (by kernel_rfl) (fun K hK => ?_); go_big_quiet_step (fail); refine wpQuiet_nil (hK _ ?_); clear hK K); (refine lex_one (by kernel_rfl) (by kernel_rfl) (by kernel_rfl) (fun K hK => ?_); go_big_quiet_step (fail); refine wpQuiet_nil (hK _ ?_); clear hK K); (refine lex_one (by kernel_rfl) (by kernel_rfl) (by kernel_rfl) (fun K hK => ?_); go_big_quiet_step (fail); refine wpQuiet_nil (hK _ ?_); clear hK K); (refine lex_one (by kernel_rfl) (by kernel_rfl) (by kernel_rfl) (fun K hK => ?_); go_big_quiet_step (fail); refine wpQuiet_nil (hK _ ?_); clear hK K)
            (refine lex_call (f := 81) (args := #[.string (bs xn)]) (v := .bool true) (by kernel_rfl) (fun _ _ h => by cases h) (by kernel_rfl) (by kernel_rfl) (fun _ => by go_simp) (fun W hW => QN.out W) (lex_put (type := 0) (pos := "") (fun K hK => ?_)); go_big_quiet_step (fail); refine wpQuiet_nil (hK _ ?_); clear hK K)
            (refine lex_one (by kernel_rfl) (by kernel_rfl) (by kernel_rfl) (fun K hK => ?_); go_big_quiet_step (fail); refine wpQuiet_nil (hK _ ?_); clear hK K); (refine lex_one (by kernel_rfl) (by kernel_rfl) (by kernel_rfl) (fun K hK => ?_); go_big_quiet_step (fail); refine wpQuiet_nil (hK _ ?_); clear hK K); (refine lex_one (by kernel_rfl) (by kernel_rfl) (by kernel_rfl) (fun K hK => ?_); go_big_quiet_step (fail); refine wpQuiet_nil (hK _ ?_); clear hK K); (refine lex_one (by kernel_rfl) (by kernel_rfl) (by kernel_rfl) (fun K hK => ?_); go_big_quiet_step (fail); refine wpQuiet_nil (hK _ ?_); clear hK K); (refine lex_one (by kernel_rfl) (by kernel_rfl) (by kernel_rfl) (fun K hK => ?_); go_big_quiet_step (fail); refine wpQuiet_nil (hK _ ?_); clear hK K); (refine lex_one (by kernel_rfl) (by kernel_rfl) (by kernel_rfl) (fun K hK => ?_); go_big_quiet_step (fail); refine wpQuiet_nil (hK _ ?_); clear hK K); (refine lex_one (by kernel_rfl) (by kernel_rfl) (by kernel_rfl) (fun K hK => ?_); go_big_quiet_step (fail); refine wpQuiet_nil (hK _ ?_); clear hK K)
            (refine lex_call (f := 82) (args := #[.string (bs xv)]) (v := .bool true) (by kernel_rfl) (fun _ _ h => by cases h) (by kernel_rfl) (by kernel_rfl) (fun _ => by go_simp) (fun W hW => QV.out W) (lex_put (type := 0) (pos := "") (fun K hK => ?_)); go_big_quiet_step (fail); refine wpQuiet_nil (hK _ ?_); clear hK K)
            (refine lex_one (by kernel_rfl) (by kernel_rfl) (by kernel_rfl) (fun K hK => ?_); go_big_quiet_step (fail); refine wpQuiet_nil (hK _ ?_); clear hK K); (refine lex_one (by kernel_rfl) (by kernel_rfl) (by kernel_rfl) (fun K hK => ?_); go_big_quiet_step (fail); refine wpQuiet_nil (hK _ ?_); clear hK K); (refine lex_one (by kernel_rfl) (by kernel_rfl) (by kernel_rfl) (fun K hK => ?_); go_big_quiet_step (fail); refine wpQuiet_nil (hK _ ?_); clear hK K); (refine lex_one (by kernel_rfl) (by kernel_rfl) (by kernel_rfl) (fun K hK => ?_); go_big_quiet_step (fail); refine wpQuiet_nil (hK _ ?_); clear hK K); (refine lex_one (by kernel_rfl) (by kernel_rfl) (by kernel_rfl) (fun K hK => ?_); go_big_quiet_step (fail); refine wpQuiet_nil (hK _ ?_); clear hK K); (refine lex_one (by kernel_rfl) (by kernel_rfl) (by kernel_rfl) (fun K hK => ?_); go_big_quiet_step (fail); refine wpQuiet_nil (hK _ ?_); clear hK K); (refine lex_one (by kernel_rfl) (by kernel_rfl) (by kernel_rfl) (fun K hK => ?_); go_big_quiet_step (fail); refine wpQuiet_nil (hK _ ?_); clear hK K); (refine lex_one (by kernel_rfl) (by kernel_rfl) (by kernel_rfl) (fun K hK => ?_); go_big_quiet_step (fail); refine wpQuiet_nil (hK _ ?_); clear hK K); (refine lex_one (by kernel_rfl) (by kernel_rfl) (by kernel_rfl) (fun K hK => ?_); go_big_quiet_step (fail); refine wpQuiet_nil (hK _ ?_); clear hK K); (refine lex_one (by kernel_rfl) (by kernel_rfl) (by kernel_rfl) (fun K hK => ?_); go_big_quiet_step (fail); refine wpQuiet_nil (hK _ ?_); clear hK K); (refine lex_one (by kernel_rfl) (by kernel_rfl) (by kernel_rfl) (fun K hK => ?_); go_big_quiet_step (fail); refine wpQuiet_nil (hK _ ?_); clear hK K); (refine lex_one (by kernel_rfl) (by kernel_rfl) (by kernel_rfl) (fun K hK => ?_); go_big_quiet_step (fail); refine wpQuiet_nil (hK _ ?_); clear hK K); (refine lex_one (by kernel_rfl) (by kernel_rfl) (by kernel_rfl) (fun K hK => ?_); go_big_quiet_step (fail); refine wpQuiet_nil (hK _ ?_); clear hK K); (refine lex_one (by kernel_rfl) (by kernel_rfl) (by kernel_rfl) (fun K hK => ?_); go_big_quiet_step (fail); refine wpQuiet_nil (hK _ ?_); clear hK K); (refine lex_one (by kernel_rfl) (by kernel_rfl) (by kernel_rfl) (fun K hK => ?_); go_big_quiet_step (fail); refine wpQuiet_nil (hK _ ?_); clear hK K); (refine lex_one (by kernel_rfl) (by kernel_rfl) (by kernel_rfl) (fun K hK => ?_); go_big_quiet_step (fail); refine wpQuiet_nil (hK _ ?_); clear hK K); (refine lex_one (by kernel_rfl) (by kernel_rfl) (by kernel_rfl) (fun K hK => ?_); go_big_quiet_step (fail); refine wpQuiet_nil (hK _ ?_); clear hK K)
            (refine lex_call (f := 37) (args := #[.string (bs pn), .string (bs xn)]) (v := .bool true) (by kernel_rfl) (fun _ _ h => by cases h) (by kernel_rfl) (by kernel_rfl) (fun _ => by go_simp) (fun W hW => QA.out W) (lex_put (type := 0) (pos := "") (fun K hK => ?_)); go_big_quiet_step (fail); refine wpQuiet_nil (hK _ ?_); clear hK K)
            (refine lex_one (by kernel_rfl) (by kernel_rfl) (by kernel_rfl) (fun K hK => ?_); go_big_quiet_step (fail); refine wpQuiet_nil (hK _ ?_); clear hK K); (refine lex_one (by kernel_rfl) (by kernel_rfl) (by kernel_rfl) (fun K hK => ?_); go_big_quiet_step (fail); refine wpQuiet_nil (hK _ ?_); clear hK K); (refine lex_one (by kernel_rfl) (by kernel_rfl) (by kernel_rfl) (fun K hK => ?_); go_big_quiet_step (fail); refine wpQuiet_nil (hK _ ?_); clear hK K)
            refine lex_nil (by kernel_rfl) (by kernel_rfl) (by kernel_rfl) ?_
            intro W9 hb9
            simp only [hideAll]
            have hb9' : Below w.heap.size w W9 := hb.trans (Below.mono hb9 hb.size)
            go_wp2_with fail
            go_roundw
            case rel => exact ⟨k + 1, by omega, by go_num, HF2, hb9'⟩
            case measure => simp [intOf]; omega
  · subst hkN
    have HF := Lib.hid (show R = true by rw [HR.out, List.drop_length]; rfl)
    go_wp2_with fail
    go_ret
    exact ⟨by rw [HF.out]; rfl, hb⟩
end Go.Proofs.YtpeahjocimhneaaGreatDoor
namespace Go.Proofs.YtpeahjocimhneaaGreatDoor
open Go.RowKit
attribute [local go_sem] bs_toList bs_size

theorem halfStep_xor (a b : Nat) : halfStep (a ^^^ b) = halfStep a ^^^ halfStep b := by
  have hd : (a ^^^ b) / 2 = (a / 2) ^^^ (b / 2) := by
    have := Nat.xor_div_two_pow (a := a) (b := b) (n := 1)
    simpa using this
  have hm : (a ^^^ b) % 2 = (a % 2) ^^^ (b % 2) := by
    have := Nat.xor_mod_two_pow (a := a) (b := b) (n := 1)
    simpa using this
  unfold halfStep
  rw [hd, hm]
  rcases Nat.mod_two_eq_zero_or_one a with h1 | h1 <;> rcases Nat.mod_two_eq_zero_or_one b with h2 | h2 <;> rw [h1, h2]
  · simp
  · simp [Nat.xor_assoc]
  · simp only [Nat.xor_zero, if_true, Nat.zero_ne_one, if_false]
    rw [Nat.xor_assoc, Nat.xor_comm (b / 2), ← Nat.xor_assoc]
  · simp only [Nat.xor_self, Nat.zero_ne_one, if_false, if_true]
    generalize a / 2 = x
    generalize b / 2 = y
    generalize 2197175160 = p
    rw [show (x ^^^ p) ^^^ (y ^^^ p) = (x ^^^ y) ^^^ (p ^^^ p) by ac_rfl, Nat.xor_self, Nat.xor_zero]
theorem halfN_xor (a b : Nat) : ∀ k, halfN k (a ^^^ b) = halfN k a ^^^ halfN k b
  | 0 => rfl
  | k + 1 => by rw [halfN, halfN_xor a b k, halfStep_xor]; rfl
theorem halfN_add (a c : Nat) : ∀ b, halfN (a + b) c = halfN b (halfN a c)
  | 0 => rfl
  | b + 1 => by rw [← Nat.add_assoc, halfN, halfN_add a c b]; rfl
theorem halfN_mul (m : Nat) : ∀ k, halfN k (2 ^ k * m) = m
  | 0 => by simp [halfN]
  | k + 1 => by
    rw [halfN, show 2 ^ (k + 1) * m = 2 ^ k * (2 * m) by rw [Nat.pow_succ, Nat.mul_assoc], halfN_mul (2 * m) k]
    unfold halfStep
    rw [if_neg (by omega)]
    omega
theorem split16 (c : Nat) : (c % 16) ^^^ (2 ^ 4 * (c / 16)) = c := by
  apply Nat.eq_of_testBit_eq
  intro i
  rw [Nat.testBit_xor, show c % 16 = c % 2 ^ 4 from rfl, Nat.testBit_mod_two_pow, Nat.testBit_two_pow_mul, show c / 16 = c / 2 ^ 4 from rfl, Nat.testBit_div_two_pow]
  by_cases h : i < 4
  · have h2 : ¬ 4 ≤ i := by omega
    simp [h, h2]
  · have h2 : 4 ≤ i := by omega
    simp [h, h2, Nat.sub_add_cancel]
theorem nibble_half (c : Nat) : nibble c = halfN 4 c := by
  have h := congrArg (halfN 4) (split16 c)
  rw [halfN_xor, halfN_mul] at h
  exact h
theorem crcByte_half (c : Nat) (b : UInt8) : crcByte c b = halfN 8 (c ^^^ b.toNat) := by
  unfold crcByte
  rw [nibble_half, nibble_half, ← halfN_add]

set_option maxRecDepth 100000 in
set_option maxHeartbeats 1000000 in
theorem ref01_run_any (c : Nat) (l : List UInt8) (hc : c < 4294967296) (hl : l.length ≤ 1099511627776) (w : World) :
    Calls Tryz.prog 107 #[.int .u32 (c : Int), .string (bs l)] w fun e w' => e = .returned (.int .u32 (crcFold c l : Int)) ∧ w = w' := by
  have H2 := Lib.hid (fun (c : Nat) (h : c < 4294967296) => show bits BinOp.xor IntKind.u32 ((c : Int) / 2) 2197175160 = (((c / 2) ^^^ 2197175160 : Nat) : Int) from u32_xor_nat (c / 2) 2197175160 (by omega) (by omega))
  go_enter Tryz.func107, Tryz.ntmps107
  go_wp2_with fail
  go_loop [0, 5] (fun vc vi => ∃ i : Nat, i ≤ l.length ∧ vi = .int .i64 (i : Int) ∧ vc = .int .u32 (crcFold c (l.take i) : Int)) (fun _ vi => l.length - (intOf vi).toNat)
  case atStart => exact ⟨0, Nat.zero_le _, rfl, rfl⟩
  obtain ⟨i, hi, rfl, rfl⟩ := hrel
  have hlt := crcFold_lt hc (l.take i)
  rcases (show i < l.length ∨ i = l.length by omega) with hil | rfl
  · have hb := List.getElem?_eq_getElem hil
    have HN := Lib.hid (crcFold_next (c := c) hb)
    generalize l[i] = b at *
    have hidx := fun W => run_index_bs (P := Tryz.prog) 9 Tryz.underlying9 l i b hb .i64 W
    generalize crcFold c (l.take i) = d at *
    have hbl := b.toNat_lt
    have e0 : bits BinOp.xor IntKind.u32 (d : Int) (b.toNat : Int) = ((d ^^^ b.toNat : Nat) : Int) := u32_xor_nat d b.toNat hlt (by omega)
    have hx : d ^^^ b.toNat < 4294967296 := Nat.xor_lt_two_pow (n := 32) hlt (by omega)
    have HD := Lib.hid (crcByte_half d b)
    generalize d ^^^ b.toNat = x at *
    go_wp2_with fail
    go_loop [0, 6] (fun vc vk => ∃ j : Nat, j ≤ 8 ∧ vk = .int .i64 (j : Int) ∧ vc = .int .u32 (halfN j x : Int)) (fun _ vk => 20 - (intOf vk).toNat)
    case atStart => exact ⟨0, by omega, rfl, rfl⟩
    obtain ⟨j, hj, rfl, rfl⟩ := hrel
    have hlt2 := halfN_lt hx j
    have HS := Lib.hid (show halfN (j + 1) x = halfStep (halfN j x) from rfl)
    rcases (show j < 8 ∨ j = 8 by omega) with hj8 | rfl
    · generalize halfN j x = y at *
      have e2 := H2.out y hlt2
      by_cases hy : y % 2 = 1
      · have hs : halfStep y = (y / 2) ^^^ 2197175160 := by
          unfold halfStep
          rw [if_pos hy]
        have f : ((y : Int) % 2 == 1) = true := by
          simp only [beq_iff_eq]
          omega
        rw [hs] at HS
        clear hy hs
        go_wp2_with fail
        go_round
        case rel => exact ⟨j + 1, by omega, by go_num, by rw [HS.out]⟩
        case measure => simp [intOf]; omega
      · have hs : halfStep y = y / 2 := by
          unfold halfStep
          rw [if_neg hy]
        have f : ((y : Int) % 2 == 1) = false := by
          simp only [beq_eq_false_iff_ne, ne_eq]
          omega
        rw [hs] at HS
        clear hy hs
        go_wp2_with fail
        go_round
        case rel => exact ⟨j + 1, by omega, by go_num, by rw [HS.out]; simp⟩
        case measure => simp [intOf]; omega
    · generalize halfN 8 x = y at *
      go_wp2_with fail
      go_round
      case rel => exact ⟨i + 1, by omega, by go_num, by rw [HN.out, HD.out]⟩
      case measure => simp [intOf]; omega
  · have HT := Lib.hid (show crcFold c (l.take l.length) = crcFold c l by rw [List.take_length])
    generalize crcFold c (l.take l.length) = d at *
    go_wp2
    go_ret
    exact ⟨by rw [← HT.out]; rfl, rfl⟩

set_option maxRecDepth 100000 in
theorem ref01_Of_any (l : List UInt8) (hl : l.length ≤ 1099511627776) (w : World) :
    Calls Tryz.prog 80 #[.string (bs l)] w fun e w' => e = .returned (.int .u32 (crcOn 0 l : Int)) ∧ w = w' := by
  have q := Lib.hid (show Calls Tryz.prog 107 #[.int .u32 4294967295, .string (bs l)] w _ from ref01_run_any 4294967295 l (by omega) hl w)
  have hlt := crcFold_lt (c := 4294967295) (by omega) l
  have HC := Lib.hid (show crcOn 0 l = 4294967295 - crcFold 4294967295 l from rfl)
  generalize crcFold 4294967295 l = y at *
  go_enter Tryz.func80, Tryz.ntmps80
  go_wp2_with fail
  refine q.out.mono ?_
  rintro e w1 ⟨rfl, rfl⟩
  go_wp2
  go_ret
  exact ⟨by rw [HC.out]; exact ret_int (by omega), rfl⟩

def RTailRel (n : Nat) (w : World) (vc vb vi : Value) (wr : World) : Prop :=
  ∃ (k : Nat), vi = .int .i64 (k : Nat) ∧ vc = .int .u32 ((n / 256 ^ k : Nat) : Int) ∧ k ≤ 4 ∧ OwnB wr w.heap.size 5 vb (Num.wideF k n) ∧ Below w.heap.size w wr

set_option maxRecDepth 100000 in
set_option maxHeartbeats 400000 in
theorem ref01_Tail_any (l : List UInt8) (hl : l.length ≤ 1099511627776) (w : World) :
    Calls Tryz.prog 35 #[.string (bs l)] w fun e w' => e = .returned (.string (bs (tailB l))) ∧ Below w.heap.size w w' := by
  have q := Lib.hid (ref01_Of_any l hl w)
  have HT := Lib.hid (show tailB l = Num.wideF 4 (crcOn 0 l) from rfl)
  have hn := crcOn_lt 0 l
  generalize crcOn 0 l = n at *
  go_enter Tryz.func35, Tryz.ntmps35
  go_wp2_with fail
  refine q.out.mono ?_
  rintro e _ ⟨rfl, rfl⟩
  go_wp2_with fail
  go_loopw [3, 4, 5] (fun vc vb vi wr => RTailRel n w vc vb vi wr) (fun _ _ vi _ => 10 - (intOf vi).toNat)
  case atStart => exact ⟨0, rfl, by simp, by omega, OwnB.nil _ _ _, Below.refl _ _⟩
  obtain ⟨k, rfl, hvc, hk8, ho, hb⟩ := hrel
  have hsz := hb.size
  have hm1 : n / 256 ^ k < 4294967296 := by have := Nat.div_le_self n (256 ^ k); omega
  have hdiv : Hid (((n / 256 ^ (k + 1) : Nat) : Int) = ((n / 256 ^ k : Nat) : Int) / 256) := by
    show _ = _; rw [Nat.pow_succ, ← Nat.div_div_eq_div_mul]; rfl
  have hx : Hid (((UInt8.ofNat (n / 256 ^ k % 256)).toNat : Int) = ((n / 256 ^ k : Nat) : Int) % 256) := by
    show _ = _; rw [Num.ofNat_toNat _ (by omega)]; omega
  have hw := Lib.hid (wideF_snoc k n)
  have hl := Num.wideF_len k n
  have hm2 : ((n / 256 ^ k : Nat) : Int) < 4294967296 := by omega
  have hm0 : 0 ≤ ((n / 256 ^ k : Nat) : Int) := Int.natCast_nonneg _
  generalize ((n / 256 ^ k : Nat) : Int) = m at hvc hdiv hx hm2 hm0
  generalize UInt8.ofNat (n / 256 ^ k % 256) = x at hx hw
  subst hvc
  clear hm1
  by_cases hlt : k < 4
  · have hE : (Num.wideF k n).length + 1 ≤ 140737488355328 := by omega
    have hl' := Lib.hid hl
    clear hl
    go_wp2_with (at_builtin; refine wpList_append_byte rfl (.tmp 12) (.tmp 16) 63 rfl w.heap.size 5 Tryz.underlying63 u8_info _ _ rfl ho 1 _ x rfl hx.out.symm hE hsz ?_; intro g cap w' ho' hb')
    go_roundw
    case rel => exact ⟨k + 1, rfl, by rw [hdiv.out], by omega, by rw [hw.out]; exact ho', hb.trans hb'⟩
    case measure => simp [intOf]; omega
  · obtain rfl : k = 4 := by omega
    have hf := OwnB.form ho (by rw [hl]; omega)
    obtain ⟨g, cap, rfl, _⟩ := hf
    have hc := run_conv_own (P := Tryz.prog) 63 9 5 Tryz.underlying63 Tryz.underlying5 Tryz.underlying9 wr w.heap.size g _ cap _ ho rfl
    clear hl
    go_wp2
    go_ret
    exact ⟨by rw [HT.out]; rfl, hb⟩
end Go.Proofs.YtpeahjocimhneaaGreatDoor
namespace Go.Proofs.YtpeahjocimhneaaGreatDoor
open Go.RowKit Go.Maps Go.WideMaps
attribute [local go_sem] bs_toList bs_size

set_option maxRecDepth 100000 in
set_option maxHeartbeats 1000000 in
theorem Rcommon_any (s t : List UInt8) (w : World) (hs : s.length ≤ 1099511627776) :
    Calls Tryz.prog 75 #[.string (bs s), .string (bs t)] w fun e w' => e = .returned (.int .i64 (common s t : Int)) ∧ Below w.heap.size w w' := by
  have HI1 := Lib.hid (fun (i : Nat) b (h : s[i]? = some b) k W => run_index_bs (P := Tryz.prog) 9 Tryz.underlying9 s i b h k W)
  have HI2 := Lib.hid (fun (i : Nat) b (h : t[i]? = some b) k W => run_index_bs (P := Tryz.prog) 9 Tryz.underlying9 t i b h k W)
  have HCT := Lib.hid (common_take s t)
  have HCS := Lib.hid (common_stop s t)
  have hz1 := bs_size s
  have hz2 := bs_size t
  have hcl := common_le s t
  go_enter Tryz.func75, Tryz.ntmps75
  go_wp2_with fail
  go_loopw [5] (fun vn wr => ∃ k : Nat, k ≤ common s t ∧ vn = .int .i64 (k : Int) ∧ Below w.heap.size w wr) (fun vn _ => common s t - (intOf vn).toNat)
  case atStart => exact ⟨0, Nat.zero_le _, rfl, Below.refl _ _⟩
  obtain ⟨k, hk, rfl, hb⟩ := hrel
  have hc2 := hcl.2.1
  have hc1 := hcl.1
  clear hcl
  by_cases h1 : k < s.length
  · have f1 : decide (k < s.length) = true := by simpa using h1
    have f1' : decide ((k : Int) < (s.length : Int)) = true := by simp; omega
    by_cases h2 : k < t.length
    · have f2 : decide (k < t.length) = true := by simpa using h2
      have f2' : decide ((k : Int) < (t.length : Int)) = true := by simp; omega
      have j1 := HI1.out k s[k] (List.getElem?_eq_getElem h1)
      have j2 := HI2.out k t[k] (List.getElem?_eq_getElem h2)
      by_cases he : s[k] = t[k]
      · have HC := Lib.hid (HCT.out k h1 h2 hk he)
        rw [← he] at j2
        have f3 : ((s[k].toNat : Int) == (s[k].toNat : Int)) = true := by simp
        generalize s[k] = x at *
        clear HI1 HI2 HCS he h1 h2
        go_wp2_with fail
        go_quiet (fail)
        go_wp2_with fail
        go_roundw
        case rel => exact ⟨k + 1, HC.out, by go_num, below_drewN hb _⟩
        case measure => simp [intOf]; have := HC.out; omega
      · have HC := Lib.hid (HCS.out k hk fun _ _ => he)
        have f3 : ((s[k].toNat : Int) == (t[k].toNat : Int)) = false := by simpa using fun e => he (UInt8.toNat_inj.1 (by omega))
        generalize s[k] = x at *
        generalize t[k] = y at *
        clear HI1 HI2 HCS he HCT h1 h2
        go_wp2_with fail
        go_quiet (fail)
        go_wp2_with fail
        go_ret
        exact ⟨by rw [HC.out]; rfl, below_drewN hb _⟩
    · have f2 : decide (k < t.length) = false := by simpa using h2
      have f2' : decide ((k : Int) < (t.length : Int)) = false := by simp; omega
      have HC := Lib.hid (HCS.out k hk fun _ h2' => absurd h2' h2)
      clear HI1 HI2 HCS HCT h1 h2
      go_wp2_with fail
      go_quiet (fail)
      go_wp2_with fail
      go_ret
      exact ⟨by rw [HC.out]; rfl, below_drewN hb _⟩
  · have f1 : decide (k < s.length) = false := by simpa using h1
    have f1' : decide ((k : Int) < (s.length : Int)) = false := by simp; omega
    have HC := Lib.hid (HCS.out k hk fun h1' _ => absurd h1' h1)
    clear HI1 HI2 HCS HCT h1
    go_wp2_with fail
    go_quiet (fail)
    go_wp2_with fail
    go_ret
    exact ⟨by rw [HC.out]; rfl, below_drewN hb _⟩
end Go.Proofs.YtpeahjocimhneaaGreatDoor
