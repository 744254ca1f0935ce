/- Frames: what is got; what a file begins with. -/
import Derived.Test.YtgehgjalkponfaaGreatDoorFrmA
namespace Go.Proofs.YtgehgjalkponfaaGreatDoor
open Go.RowKit
attribute [local go_sem] bs_toList bs_size

/-- What a frame has, what is left, and its shape: 0 whole, 1 short, 2 wrong. -/
def frameGet (s : List UInt8) (most : Nat) : List UInt8 × List UInt8 × Int :=
  match Num.getSmall s with
  | none => ([], s, if unendedB s then 1 else 2)
  | some (n, k) => if most < n then ([], s, 2) else if (s.drop k).length < n + 4 then ([], s, 1)
    else if (goodB (s.take (k + n + 4))).isSome then ((s.drop k).take n, s.drop (k + n + 4), 0) else ([], s, 2)
def frameV (x : List UInt8 × List UInt8 × Int) : Value := .tuple #[.string (bs x.1), .string (bs x.2.1), .int .i64 x.2.2]

set_option maxRecDepth 100000 in
set_option maxHeartbeats 2000000 in
theorem Get_any (s : List UInt8) (most : Nat) (hl : s.length ≤ 1048576) (hm : most ≤ 1048576) (w : World) :
    Calls Tryz.prog 39 #[.string (bs s), .int .i64 (most : Int)] w fun e w' => e = .returned (frameV (frameGet s most)) ∧ Below w.heap.size w w' := by
  have k0 : Cur (w.alloc (.cells #[.string (bs s), .bool false] 88)) w.heap.size s false := Blk.new _ _ _
  have b0 := one_alloc w (.cells #[.string (bs s), .bool false] 88)
  have hG : ∀ w' : World, (w.alloc (.cells #[.string (bs s), .bool false] 88)).grownBy w' (some w.heap.size) → Below w.heap.size w w' := fun _ h => b0.grown h b0.size (fun k hk => by cases hk; exact Nat.le_refl _)
  have HG := Lib.hid hG
  clear hG b0
  cases hgs : Num.getSmall s with
  | none =>
    have q := Lib.hid (CSmall_fail _ s false _ k0 (by omega) (.inr hgs))
    have HF := Lib.hid (show frameV (frameGet s most) = .tuple #[.string ⟨#[]⟩, .string (bs s), .int .i64 (if unendedB s then 1 else 2)] by unfold frameGet; rw [hgs]; rfl)
    clear hgs k0
    have qu := Lib.hid (fun W => unended_any s (by omega) W)
    go_enter Tryz.func39, Tryz.ntmps39
    go_wp2_with fail
    refine q.out.mono ?_
    rintro e w1 ⟨rfl, k1, g1⟩
    have c1 := k1.c1
    have c0 := k1.c0
    go_wp2_with fail
    refine (qu.out _).mono ?_
    rintro e w2 ⟨rfl, rfl⟩
    cases hu : unendedB s with
    | true =>
      rw [hu] at HF
      go_wp2
      go_ret3
      exact ⟨by rw [HF.out]; rfl, HG.out _ g1⟩
    | false =>
      rw [hu] at HF
      go_wp2
      go_ret3
      exact ⟨by rw [HF.out]; rfl, HG.out _ g1⟩
  | some x =>
    obtain ⟨n, k⟩ := x
    have hbd := getSmall_bd s n k hgs
    have q := Lib.hid (CSmall_some _ s n k (s.drop k) _ k0 (by omega) hgs rfl)
    have hrl : (s.drop k).length = s.length - k := by simp
    have HF := Lib.hid (show frameGet s most = if most < n then ([], s, 2) else if (s.drop k).length < n + 4 then ([], s, 1)
      else if (goodB (s.take (k + n + 4))).isSome then ((s.drop k).take n, s.drop (k + n + 4), 0) else ([], s, 2) by unfold frameGet; rw [hgs])
    clear hgs k0
    by_cases h1 : most < n
    · have HR := Lib.hid (show frameV (frameGet s most) = .tuple #[.string ⟨#[]⟩, .string (bs s), .int .i64 2] by rw [HF.out, if_pos h1]; rfl)
      generalize s.drop k = r at *
      clear HF
      go_enter Tryz.func39, Tryz.ntmps39
      go_wp2_with fail
      refine q.out.mono ?_
      rintro e w1 ⟨rfl, k1, g1⟩
      have c1 := k1.c1
      have c0 := k1.c0
      go_wp2
      go_ret3
      exact ⟨by rw [HR.out]; rfl, HG.out _ g1⟩
    · by_cases h2 : (s.drop k).length < n + 4
      · have HR := Lib.hid (show frameV (frameGet s most) = .tuple #[.string ⟨#[]⟩, .string (bs s), .int .i64 1] by rw [HF.out, if_neg h1, if_pos h2]; rfl)
        generalize s.drop k = r at *
        clear HF
        go_enter Tryz.func39, Tryz.ntmps39
        go_wp2_with fail
        refine q.out.mono ?_
        rintro e w1 ⟨rfl, k1, g1⟩
        have c1 := k1.c1
        have c0 := k1.c0
        go_wp2
        go_ret3
        exact ⟨by rw [HR.out]; rfl, HG.out _ g1⟩
      · have hkn : k ≤ s.length := hbd.2.1
        have htk := Num.getTake_some (s.drop k) n (by omega)
        have hr2l : ((s.drop k).drop n).length = s.length - k - n := by simp; omega
        have hbl : (((s.drop k).drop n).drop 4).length = s.length - k - n - 4 := by simp; omega
        have hbe : s.drop (k + n + 4) = ((s.drop k).drop n).drop 4 := by rw [List.drop_drop, List.drop_drop, Nat.add_assoc]
        rw [hbe] at HF
        have he1 : (bs ((s.drop k).drop n)).extract 4 ((s.drop k).drop n).length = bs (((s.drop k).drop n).drop 4) := by
          rw [bs_extract, List.take_of_length_le (by simp; omega)]
        have he2 : (bs s).extract 0 (k + n + 4) = bs (s.take (k + n + 4)) := by rw [bs_extract, List.drop_zero, Nat.sub_zero]
        have hw : IntKind.i64.wrap ((s.length : Int) - ((((s.drop k).drop n).drop 4).length : Nat)) = ((k + n + 4 : Nat) : Int) := by simp [IntKind.wrap, IntKind.bits, IntKind.signed]; omega
        have hml : ((k + n + 4 : Nat) : Int) ≤ (s.length : Int) := by omega
        have hm0 : (0 : Int) ≤ ((k + n + 4 : Nat) : Int) := by omega
        have qg := Lib.hid (fun W => Good_any (s.take (k + n + 4)) (by simp; omega) W)
        generalize hr : s.drop k = r at *
        have hq2 : ∀ W, Cur W w.heap.size r false → _ := fun W hW => CTake_some w.heap.size r n (r.take n) n (r.drop n) W hW (by omega) (by omega) (by omega) htk rfl
        have Q2 := Lib.hid hq2
        clear hq2 htk hbe hr
        have hr24 : (4 : Int) ≤ ((r.drop n).length : Int) := by omega
        clear hr2l hbl
        generalize r.take n = bb at *
        generalize r.drop n = r2 at *
        generalize r2.drop 4 = bh at *
        have HV0 := Lib.hid (show goodB (s.take (k + n + 4)) = none → frameV (frameGet s most) = .tuple #[.string ⟨#[]⟩, .string (bs s), .int .i64 2] from fun e => by rw [HF.out, if_neg h1, if_neg h2, e]; rfl)
        have HV1 := Lib.hid (show ∀ z, goodB (s.take (k + n + 4)) = some z → frameV (frameGet s most) = .tuple #[.string (bs bb), .string (bs bh), .int .i64 0] from fun z e => by rw [HF.out, if_neg h1, if_neg h2, e]; rfl)
        clear HF
        generalize s.take (k + n + 4) = sm at *
        generalize k + n + 4 = m at *
        go_enter Tryz.func39, Tryz.ntmps39
        go_wp2_with fail
        refine q.out.mono ?_
        rintro e w1 ⟨rfl, k1, g1⟩
        have c1 := k1.c1
        have c0 := k1.c0
        go_wp2_with fail
        refine (Q2.out _ k1).mono ?_
        rintro e w2 ⟨rfl, k2, g2⟩
        have c0 := k2.c0
        have hgb := HG.out _ (grown_trans' g1 g2)
        clear c1 k1 g1 g2 k2 q Q2 hrl h1 h2 hbd hkn
        generalize hGe : w.heap.size = G at *
        go_wp2_with fail
        refine (qg.out _).mono ?_
        rintro e w3 ⟨rfl, hb3⟩
        cases hgd : goodB sm with
        | none =>
          have hgv : goodV sm = .tuple #[.string ⟨#[]⟩, .bool false] := by unfold goodV; rw [hgd]
          rw [hgv]
          have HR := Lib.hid (HV0.out hgd)
          go_wp2
          go_ret3
          exact ⟨by rw [HR.out]; rfl, by subst hGe; exact hgb.trans (hb3.mono hgb.size)⟩
        | some z =>
          have hgv : goodV sm = .tuple #[.string (bs z), .bool true] := by unfold goodV; rw [hgd]
          rw [hgv]
          have HR := Lib.hid (HV1.out z hgd)
          go_wp2
          go_ret3
          exact ⟨by rw [HR.out]; rfl, by subst hGe; exact hgb.trans (hb3.mono hgb.size)⟩

/-- What a file begins with: its generation, its flags, what is left; and an error. -/
def openB (s magic : List UInt8) : Nat × Nat × List UInt8 × Int :=
  if s.length < magic.length + 6 then (0, 0, [], 9)
  else match goodB (s.take (magic.length + 6)) with
    | none => (0, 0, [], 9)
    | some b => if b.take magic.length ≠ magic then (0, 0, [], 9)
      else if 3 < (b.getD magic.length 0).toNat ∨ 3 < (b.getD (magic.length + 1) 0).toNat then (0, 0, [], 10)
      else if (b.getD magic.length 0).toNat = 0 then (0, 0, [], 9)
      else ((b.getD magic.length 0).toNat, (b.getD (magic.length + 1) 0).toNat, s.drop (magic.length + 6), 0)
def openV (x : Nat × Nat × List UInt8 × Int) : Value := .tuple #[.int .i64 (x.1 : Int), .int .i64 (x.2.1 : Int), .string (bs x.2.2.1), .int .i64 x.2.2.2]

theorem results_tmp4 {fn : Func} {t u v x : Tmp} (h : fn.results = #[.tmp t, .tmp u, .tmp v, .tmp x]) (tmps : Array Value) (P : Program) (w : World) :
    (results fn tmps).run P w = .ok (.tuple #[tmps.getD t undef, tmps.getD u undef, tmps.getD v undef, tmps.getD x undef]) w := by
  simp [results, h]
theorem and_flags0 : ∀ f : Fin 4, bits BinOp.andNot IntKind.i64 (f.val : Int) 3 = 0 := by decide +kernel
theorem and_flags1 : ∀ f : Fin 256, 3 < f.val → bits BinOp.andNot IntKind.i64 (f.val : Int) 3 = ((f.val / 4 * 4 - 1 + 1 : Nat) : Int) := by decide +kernel
set_option maxRecDepth 100000 in
set_option maxHeartbeats 2000000 in
theorem Open_any (s magic : List UInt8) (_hl : s.length ≤ 1048576) (hm : magic.length ≤ 1000) (w : World) :
    Calls Tryz.prog 38 #[.string (bs s), .string (bs magic)] w fun e w' => e = .returned (openV (openB s magic)) ∧ Below w.heap.size w w' := by
  by_cases h1 : s.length < magic.length + 6
  · have HO := Lib.hid (show openV (openB s magic) = .tuple #[.int .i64 0, .int .i64 0, .string ⟨#[]⟩, .int .i64 9] by unfold openB; rw [if_pos h1]; rfl)
    go_enter Tryz.func38, Tryz.ntmps38
    go_wp2
    ((try simp only [Exit.inBlock, Exit.then]); refine bodyPost_ret (results_tmp4 rfl _ _ _) rfl ?_)
    exact ⟨by rw [HO.out]; rfl, Below.refl _ _⟩
  have HO := Lib.hid (show openB s magic = (match goodB (s.take (magic.length + 6)) with
    | none => (0, 0, [], 9)
    | some b => if b.take magic.length ≠ magic then (0, 0, [], 9)
      else if 3 < (b.getD magic.length 0).toNat ∨ 3 < (b.getD (magic.length + 1) 0).toNat then (0, 0, [], 10)
      else if (b.getD magic.length 0).toNat = 0 then (0, 0, [], 9)
      else ((b.getD magic.length 0).toNat, (b.getD (magic.length + 1) 0).toNat, s.drop (magic.length + 6), 0)) by unfold openB; rw [if_neg h1])
  have hd : decide ((s.length : Int) < (magic.length : Int) + 2 + 4) = false := by simp; omega
  have he1 : (bs s).extract 0 ((magic.length : Int) + 2 + 4).toNat = bs (s.take (magic.length + 6)) := by
    rw [bs_extract, List.drop_zero, Nat.sub_zero, show ((magic.length : Int) + 2 + 4).toNat = magic.length + 6 by omega]
  have he3 : (bs s).extract ((magic.length : Int) + 2 + 4).toNat s.length = bs (s.drop (magic.length + 6)) := by
    rw [bs_extract, show ((magic.length : Int) + 2 + 4).toNat = magic.length + 6 by omega, List.take_of_length_le (by simp)]
  have h0' : (0 : Int) ≤ (magic.length : Int) + 2 + 4 := by omega
  have h1' : (magic.length : Int) + 2 + 4 ≤ (s.length : Int) := by omega
  have q := Lib.hid (fun W => Good_any (s.take (magic.length + 6)) (by simp; omega) W)
  cases hg : goodB (s.take (magic.length + 6)) with
  | none =>
    have hgv : goodV (s.take (magic.length + 6)) = .tuple #[.string ⟨#[]⟩, .bool false] := by unfold goodV; rw [hg]
    rw [hgv] at q
    have HV := Lib.hid (show openV (openB s magic) = .tuple #[.int .i64 0, .int .i64 0, .string ⟨#[]⟩, .int .i64 9] by rw [HO.out, hg]; rfl)
    clear HO hg hgv he3
    generalize s.take (magic.length + 6) = sm at *
    go_enter Tryz.func38, Tryz.ntmps38
    go_wp2_with fail
    refine (q.out _).mono ?_
    rintro e w1 ⟨rfl, hb⟩
    go_wp2
    ((try simp only [Exit.inBlock, Exit.then]); refine bodyPost_ret (results_tmp4 rfl _ _ _) rfl ?_)
    exact ⟨by rw [HV.out]; rfl, hb⟩
  | some b =>
    have hgv : goodV (s.take (magic.length + 6)) = .tuple #[.string (bs b), .bool true] := by unfold goodV; rw [hg]
    rw [hgv] at q
    rw [hg] at HO
    have hbl : b.length = magic.length + 2 := by
      have := congrArg List.length (goodB_some hg)
      rw [List.length_append, tailB_len, List.length_take] at this
      omega
    have he2 : (bs b).extract 0 magic.length = bs (b.take magic.length) := by rw [bs_extract, List.drop_zero, Nat.sub_zero]
    have h3' : (magic.length : Int) ≤ (b.length : Int) := by omega
    clear hg hgv
    by_cases ht : b.take magic.length = magic
    case neg =>
      have htq : (b.take magic.length == magic) = false := by simpa using ht
      have HV := Lib.hid (show openV (openB s magic) = .tuple #[.int .i64 0, .int .i64 0, .string ⟨#[]⟩, .int .i64 9] by rw [HO.out]; simp only; rw [if_pos ht]; rfl)
      clear HO ht he3
      generalize s.take (magic.length + 6) = sm at *
      generalize b.take magic.length = bm at *
      go_enter Tryz.func38, Tryz.ntmps38
      go_wp2_with fail
      refine (q.out _).mono ?_
      rintro e w1 ⟨rfl, hb⟩
      go_wp2
      ((try simp only [Exit.inBlock, Exit.then]); refine bodyPost_ret (results_tmp4 rfl _ _ _) rfl ?_)
      exact ⟨by rw [HV.out]; rfl, hb⟩
    case pos =>
      have htq : (b.take magic.length == magic) = true := by simpa using ht
      have hi1 : b[magic.length]? = some (b.getD magic.length 0) := by rw [List.getD_eq_getElem?_getD, List.getElem?_eq_getElem (by omega)]; rfl
      have hi2 : b[magic.length + 1]? = some (b.getD (magic.length + 1) 0) := by rw [List.getD_eq_getElem?_getD, List.getElem?_eq_getElem (by omega)]; rfl
      have hx1 := fun W => run_index_bs (P := Tryz.prog) 9 Tryz.underlying9 b magic.length _ hi1 .i64 W
      have hx2 := fun W => run_index_bs (P := Tryz.prog) 9 Tryz.underlying9 b (magic.length + 1) _ hi2 .i64 W
      have HV := Lib.hid (show openB s magic = (if 3 < (b.getD magic.length 0).toNat ∨ 3 < (b.getD (magic.length + 1) 0).toNat then (0, 0, [], 10)
        else if (b.getD magic.length 0).toNat = 0 then (0, 0, [], 9)
        else ((b.getD magic.length 0).toNat, (b.getD (magic.length + 1) 0).toNat, s.drop (magic.length + 6), 0)) by rw [HO.out]; simp only; rw [if_neg (by simpa using ht)])
      have hb1 := (b.getD magic.length 0).toNat_lt
      have hb2 := (b.getD (magic.length + 1) 0).toNat_lt
      have h4' : (magic.length : Int) + 1 < (b.length : Int) := by omega
      have h5' : (magic.length : Int) < (b.length : Int) := by omega
      clear HO ht hi1 hi2
      generalize (b.getD magic.length 0).toNat = ge at *
      generalize (b.getD (magic.length + 1) 0).toNat = fg at *
      generalize s.take (magic.length + 6) = sm at *
      generalize b.take magic.length = bm at *
      generalize hsd : s.drop (magic.length + 6) = sd at *
      go_enter Tryz.func38, Tryz.ntmps38
      go_wp2_with fail
      refine (q.out _).mono ?_
      rintro e w1 ⟨rfl, hb⟩
      have hwm : IntKind.i64.wrap (magic.length : Int) = (magic.length : Int) := by simp [IntKind.wrap, IntKind.bits, IntKind.signed]; omega
      have hwm1 : IntKind.i64.wrap ((magic.length : Int) + 1) = ((magic.length + 1 : Nat) : Int) := by simp [IntKind.wrap, IntKind.bits, IntKind.signed]; omega
      have hwm2 : IntKind.i64.wrap ((magic.length : Int) + 2 - 1) = ((magic.length + 1 : Nat) : Int) := by simp [IntKind.wrap, IntKind.bits, IntKind.signed]; omega
      have hwg : IntKind.i64.wrap (ge : Int) = (ge : Int) := by simp [IntKind.wrap, IntKind.bits, IntKind.signed]; omega
      have hwf : IntKind.i64.wrap (fg : Int) = (fg : Int) := by simp [IntKind.wrap, IntKind.bits, IntKind.signed]; omega
      have hx3 := hx2
      push_cast at hx3
      go_wp2_with fail
      go_quiet (fail)
      by_cases k1 : 3 < ge ∨ 3 < fg
      · have hR := Lib.hid (show openV (openB s magic) = .tuple #[.int .i64 0, .int .i64 0, .string ⟨#[]⟩, .int .i64 10] by rw [HV.out, if_pos k1]; rfl)
        by_cases k2 : 3 < ge
        · go_wp2
          ((try simp only [Exit.inBlock, Exit.then]); refine bodyPost_ret (results_tmp4 rfl _ _ _) rfl ?_)
          exact ⟨by rw [hR.out]; rfl, below_drewN hb _⟩
        · have k3 : 3 < fg := by omega
          have hfl := and_flags1 ⟨fg, hb2⟩ k3
          simp only at hfl
          generalize fg / 4 * 4 - 1 = v at *
          have hvn : ((v : Int) + 1 != 0) = true := by simp; omega
          go_wp2
          ((try simp only [Exit.inBlock, Exit.then]); refine bodyPost_ret (results_tmp4 rfl _ _ _) rfl ?_)
          exact ⟨by rw [hR.out]; rfl, below_drewN hb _⟩
      · have hfl := and_flags0 ⟨fg, by omega⟩
        simp only at hfl
        by_cases k2 : ge = 0
        · have hR := Lib.hid (show openV (openB s magic) = .tuple #[.int .i64 0, .int .i64 0, .string ⟨#[]⟩, .int .i64 9] by rw [HV.out, if_neg k1, if_pos k2]; rfl)
          subst k2
          go_wp2
          ((try simp only [Exit.inBlock, Exit.then]); refine bodyPost_ret (results_tmp4 rfl _ _ _) rfl ?_)
          exact ⟨by rw [hR.out]; rfl, below_drewN hb _⟩
        · have hR := Lib.hid (show openV (openB s magic) = .tuple #[.int .i64 (ge : Int), .int .i64 (fg : Int), .string (bs sd), .int .i64 0] by rw [HV.out, if_neg k1, if_neg k2]; rfl)
          have hk : ((ge : Int) == 0) = false := by simpa using k2
          go_wp2_with fail
          go_quiet (fail)
          go_wp2
          ((try simp only [Exit.inBlock, Exit.then]); refine bodyPost_ret (results_tmp4 rfl _ _ _) rfl ?_)
          exact ⟨by rw [hR.out]; rfl, below_drewN (below_drewN hb _) _⟩
end Go.Proofs.YtgehgjalkponfaaGreatDoor
