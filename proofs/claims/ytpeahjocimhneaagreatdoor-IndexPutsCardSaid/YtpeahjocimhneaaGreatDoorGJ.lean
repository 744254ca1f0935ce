/- A reader of entries: what lies there, and its small steps: the walk. A reader of entries: a symbol: the walk. A cursor's states in a region that draws its order. (The templates of layer 10 have these too: Lexd.) A reader's states in a region that draws its order. The table of symbols read: the walk. -/
import Derived.Test.YtpeahjocimhneaaGreatDoorGI
import Derived.Test.YtpeahjocimhneaaGreatDoorGD
import Derived.Test.YtpeahjocimhneaaGreatDoorGC
namespace Go.Proofs.YtpeahjocimhneaaGreatDoor
open Go.RowKit Go.Maps Go.WideMaps
attribute [local go_sem] bs_toList bs_size

def rdC (c : CS) (gen : Int) (sy av : Value) (a : En) : Array Value := #[.string (bs c.1), .bool c.2, .int .i64 gen, sy, av, .int .i64 a.last, .int .i64 a.off, .int .i64 a.len]
/-- A reader. -/
def Rd (w : World) (q : Nat) (c : CS) (gen : Int) (sy av : Value) (a : En) : Prop := Blk w q 91 (rdC c gen sy av a)
theorem RSm (q : Nat) (c : CS) (gen : Int) (sy av : Value) (a : En) (w : World) (h : Rd w q c gen sy av a) (hs : c.1.length ≤ 1099511627776) :
    Calls Tryz.prog 94 #[.pointer (some ⟨q, 0, none⟩)] w fun e w' => e = .returned (.int .u64 (sV c)) ∧ Rd w' q (sN c) gen sy av a ∧ w.grownBy w' (some q) := Cursor_Small_any q 0 _ _ c.1 c.2 w h rfl rfl hs
theorem RWd (q : Nat) (c : CS) (gen : Int) (sy av : Value) (a : En) (w : World) (h : Rd w q c gen sy av a) (hs : c.1.length ≤ 1099511627776) :
    Calls Tryz.prog 91 #[.pointer (some ⟨q, 0, none⟩)] w fun e w' => e = .returned (.int .u64 (wV c)) ∧ Rd w' q (wN c) gen sy av a ∧ w.grownBy w' (some q) := Cursor_Wide_any q 0 _ _ c.1 c.2 w h rfl rfl hs
theorem RTx (q : Nat) (c : CS) (gen : Int) (sy av : Value) (a : En) (w : World) (h : Rd w q c gen sy av a) (hs : c.1.length ≤ 1099511627776) :
    Calls Tryz.prog 127 #[.pointer (some ⟨q, 0, none⟩), .int .i64 48] w fun e w' => e = .returned (.string (bs (txV c))) ∧ Rd w' q (txN c) gen sy av a ∧ w.grownBy w' (some q) := by
  refine (Cursor_Text_any q 0 _ _ c.1 c.2 48 w h rfl rfl hs (by decide) (by decide)).mono ?_
  rintro e w' ⟨rfl, h1, h2⟩
  refine ⟨?_, h1, h2⟩
  unfold txV Num.ans
  cases c.2 <;> cases Num.getText c.1 48 <;> simp [gsval]
theorem RFx (q : Nat) (c : CS) (gen : Int) (sy av : Value) (a : En) (w : World) (h : Rd w q c gen sy av a) (hs : c.1.length ≤ 1099511627776) :
    Calls Tryz.prog 126 #[.pointer (some ⟨q, 0, none⟩), .int .i64 12] w fun e w' => e = .returned (.string (bs (fxV c))) ∧ Rd w' q (fxN c) gen sy av a ∧ w.grownBy w' (some q) := by
  refine (Cursor_Fixed_any q 0 _ _ c.1 c.2 12 w h rfl rfl hs (by decide) (by decide)).mono ?_
  rintro e w' ⟨rfl, h1, h2⟩
  refine ⟨?_, h1, h2⟩
  unfold fxV Num.ans
  cases c.2 <;> cases Num.getFixed c.1 12 <;> simp [gsval]
theorem RTk (q : Nat) (c : CS) (gen : Int) (sy av : Value) (a : En) (w : World) (h : Rd w q c gen sy av a) (hs : c.1.length ≤ 1099511627776) :
    Calls Tryz.prog 125 #[.pointer (some ⟨q, 0, none⟩), .int .i64 1] w fun e w' => e = .returned (.string (bs (tkV c))) ∧ Rd w' q (tkN c) gen sy av a ∧ w.grownBy w' (some q) := by
  refine (Cursor_Take_any q 0 _ _ c.1 c.2 1 w h rfl rfl hs (by decide) (by decide)).mono ?_
  rintro e w' ⟨rfl, h1, h2⟩
  refine ⟨?_, h1, h2⟩
  unfold tkV Num.ans
  cases c.2 <;> cases Num.getTake c.1 1 <;> simp [gsval]
theorem txN_len (c : CS) : (txN c).1.length ≤ c.1.length := nxt_len c _
theorem fxN_len (c : CS) : (fxN c).1.length ≤ c.1.length := nxt_len c _
theorem tkN_len (c : CS) : (tkN c).1.length ≤ c.1.length := nxt_len c _
set_option maxRecDepth 100000 in
set_option maxHeartbeats 1000000 in
theorem many_any (q : Nat) (n : Nat) (most : Nat) (c : CS) (gen : Int) (sy av : Value) (a : En) (w : World) (h : Rd w q c gen sy av a) (hn : n < 18446744073709551616) (hm : most ≤ 1000000000000) :
    Calls Tryz.prog 95 #[.pointer (some ⟨q, 0, none⟩), .int .u64 (n : Int), .int .i64 (most : Int)] w fun e w' => e = .returned (.int .i64 ((manyN n most c).1 : Nat)) ∧ Rd w' q (manyN n most c).2 gen sy av a ∧ w.grownBy w' (some q) := by
  have hu := u64N_wrap (most : Int)
  have hu2 : u64N (most : Int) = most := by unfold u64N; omega
  rw [hu2] at hu
  have HN := Lib.hid (show manyN n most c = if (most : Int) < n then (0, (c.1, true)) else ((n : Int).toNat, c) from rfl)
  generalize manyN n most c = R at *
  have d1 := (Blk.cell h 1).trans (show _ = some (Value.bool c.2) from rfl)
  have fz := Blk.frozen h 1
  go_enter Tryz.func95, Tryz.ntmps95
  by_cases hlt : (most : Int) < (n : Int)
  · have f2 : decide ((most : Int) < (n : Int)) = true := by simpa using hlt
    have f2' : decide (most < n) = true := by simp; omega
    have HR := Lib.hid (show R = (0, (c.1, true)) by rw [HN.out, if_pos hlt])
    clear HN hlt
    go_wp2_with fail
    go_ret
    rw [HR.out]
    exact ⟨rfl, Blk.set_ h 1 (.bool true), grown_set _ _ _ _⟩
  · have f2 : decide ((most : Int) < (n : Int)) = false := by simpa using hlt
    have f2' : decide (most < n) = false := by simp; omega
    have HR := Lib.hid (show R = (n, c) by rw [HN.out, if_neg hlt, Int.toNat_natCast])
    have hw : IntKind.i64.wrap (n : Int) = (n : Int) := IntWalk.i64_in _ (by omega)
    clear HN hlt
    go_wp2_with fail
    go_ret
    rw [HR.out]
    exact ⟨rfl, h, ⟨rfl, rfl, rfl, Nat.le_refl _, fun _ _ _ => rfl⟩⟩
end Go.Proofs.YtpeahjocimhneaaGreatDoor
namespace Go.Proofs.YtpeahjocimhneaaGreatDoor
open Go.RowKit Go.Maps Go.WideMaps
attribute [local go_sem] bs_toList bs_size

theorem StrsAt.grown {w w' : World} {v : Value} {S : List (List UInt8)} {q : Nat} (h : StrsAt w v S) (hg : w.grownBy w' (some q)) (hq : ∀ b, v.ownBlock = some b → b ≠ q) : StrsAt w' v S := by
  obtain ⟨a, c, h1, h2, h3, h4⟩ := h
  refine ⟨a, c, h1, h2, h3, fun i s hs => ?_⟩
  obtain ⟨h5, b, o, h6, h7⟩ := h4 i s hs
  have hb : b ≠ q := hq b (by rw [h1, h6]; rfl)
  exact ⟨h5, b, o, h6, hg.cell h7 (fun e => hb (Option.some.inj e))⟩
set_option maxRecDepth 100000 in
set_option maxHeartbeats 1000000 in
theorem symbol_any (q : Nat) (S : List (List UInt8)) (c : CS) (gen : Int) (sy av : Value) (a : En) (w : World) (h : Rd w q c gen sy av a) (hS : StrsAt w sy S) (hq : ∀ b, sy.ownBlock = some b → b ≠ q) (hl : c.1.length ≤ 1099511627776) :
    Calls Tryz.prog 121 #[.pointer (some ⟨q, 0, none⟩)] w fun e w' => e = .returned (.string (bs (symR S c).1)) ∧ Rd w' q (symR S c).2 gen sy av a ∧ w.grownBy w' (some q) := by
  have hu := u64N_wrap (S.length : Int)
  obtain ⟨sa, sc, rfl, hnil, hSl, hSx⟩ := id hS
  have hu2 : u64N (S.length : Int) = S.length := by unfold u64N; omega
  rw [hu2] at hu
  have q1 := Lib.hid (RSm q c gen _ av a w h hl)
  obtain ⟨n, hn, hn2⟩ := sV_nat c
  have HN := Lib.hid (show symR S c = if (S.length : Int) ≤ n then ([], ((sN c).1, true)) else (S.getD (n : Int).toNat [], sN c) by unfold symR; rw [hn])
  rw [hn] at q1
  have HSA := Lib.hid hS
  have HQ := Lib.hid hq
  generalize symR S c = R at *
  generalize sN c = c2 at *
  clear hS hq hn hSx
  go_enter Tryz.func121, Tryz.ntmps121
  go_wp2_with fail
  refine q1.out.mono ?_
  rintro e w2 ⟨rfl, hR, hg⟩
  have hS2 := HSA.out.grown hg HQ.out
  have d1 := (Blk.cell hR 1).trans (show _ = some (Value.bool c2.2) from rfl)
  have d3 := (Blk.cell hR 3).trans (show _ = some (Value.slice sa S.length sc) from rfl)
  have fz := Blk.frozen hR 1
  clear q1 HSA HQ
  by_cases hlt : (S.length : Int) ≤ (n : Int)
  · have f2 : decide ((S.length : Int) ≤ (n : Int)) = true := by simpa using hlt
    have f2' : decide (S.length ≤ n) = true := by simp; omega
    have HR := Lib.hid (show R = ([], (c2.1, true)) by rw [HN.out, if_pos hlt])
    clear HN hlt hS2
    go_wp2_with fail
    go_ret
    rw [HR.out]
    exact ⟨rfl, Blk.set_ hR 1 (.bool true), grown_trans' hg (grown_set _ _ _ _)⟩
  · have f2 : decide ((S.length : Int) ≤ (n : Int)) = false := by simpa using hlt
    have f2' : decide (S.length ≤ n) = false := by simp; omega
    have hnl : n < S.length := by omega
    have HR := Lib.hid (show R = (S[n], c2) by rw [HN.out, if_neg hlt, Int.toNat_natCast, List.getD_eq_getElem?_getD, List.getElem?_eq_getElem hnl]; rfl)
    obtain ⟨_, _, e1, _, _, hx⟩ := hS2
    obtain ⟨rfl, _, rfl⟩ := Value.slice.inj e1
    obtain ⟨_, b, o, rfl, x0⟩ := hx n S[n] (List.getElem?_eq_getElem hnl)
    generalize S[n] = s at *
    clear HN hlt hx e1
    go_wp2_with fail
    go_ret
    rw [HR.out]
    exact ⟨rfl, hR, hg⟩
end Go.Proofs.YtpeahjocimhneaaGreatDoor
namespace Go.Proofs.YtpeahjocimhneaaGreatDoor
open Go.RowKit

/-- A cursor's states, one behind another, by calls of a row. -/
def curPh (w0 : World) (g : Nat) (cs : List CS) (c0 : CS) (h0 : cs[0]? = some c0) (hC : Cur w0 g c0.1 c0.2) : Phases where
  ph q w := Kept w0 w (fun k => k = g) ∧ ∃ c, cs[q]? = some c ∧ Cur w g c.1 c.2
  K a b := Kept a b (fun k => k = g)
  w0 := w0
  start := ⟨Kept.refl _ _, c0, h0, hC⟩
  refl w := Kept.refl w _
  trans h k := h.trans k
  grow h := Kept.of_below h
  stay h k := ⟨h.1.trans (Kept.of_below k), by obtain ⟨c, h1, h2⟩ := h.2; exact ⟨c, h1, Blk.below h2 k h2.lt⟩⟩
theorem cur_row {P : Program} {f : FuncId} {args : Array Value} {w0 w : World} {g q : Nat} {cs : List CS} {c0 c c' : CS} {h0 : cs[0]? = some c0} {hC : Cur w0 g c0.1 c0.2} {v : Value} (hw : (curPh w0 g cs c0 h0 hC).ph q w) (hc : cs[q]? = some c) (hc' : cs[q + 1]? = some c')
    (h : Cur w g c.1 c.2 → Calls P f args w fun e w' => e = .returned v ∧ Cur w' g c'.1 c'.2 ∧ w.grownBy w' (some g)) :
    Calls P f args w fun e w' => e = .returned v ∧ (curPh w0 g cs c0 h0 hC).K w w' ∧ (curPh w0 g cs c0 h0 hC).ph (q + 1) w' := by
  obtain ⟨h1, c2, h2, h3⟩ := hw
  obtain rfl : c2 = c := by rw [hc] at h2; exact (Option.some.inj h2).symm
  refine (h h3).mono ?_
  rintro e w' ⟨rfl, h4, h5⟩
  have hk : Kept w w' (fun k => k = g) := Kept.of_grown h5 fun k e => (Option.some.inj e).symm
  exact ⟨rfl, hk, h1.trans hk, c', hc', h4⟩

/-- An operation of the row that answers nothing. -/
theorem lexc_do {S : Phases} {ch : List Nat} {P : Program} {ops : Array Oper} {n k : Nat} {ds : List Deferred} {F : Act → World → Prop} {rest : List Oper} {H : List (Tmp × Held)} {a : Act} {o : Oper} (q : Nat) (hi : ch.contains k = true) (hq : ch.idxOf k = q) (hgd : o.guard = none) (hns : ∀ cs b, o.op ≠ .select cs b) (hl : looksFree ops H o = true) (hd : o.dst = none)
    (hr : ∀ w, S.ph q w → ∃ w', (execOp a.eval o).run P w = .ok .skip w' ∧ S.K w w' ∧ S.ph (q + 1) w')
    (h : lexAtC S ch P ops n ds F (k + 1) rest H a) : lexAtC S ch P ops n ds F k (o :: rest) H a := by
  refine ⟨fun _ _ => True, fun _ _ _ _ _ => trivial, svQ hi hq fun c w hb hs => ⟨by unfold Region.wanted; rw [hgd], fun K Q' hK => ?_⟩, ?_⟩
  · have he := eval_of_fits hl hs
    obtain ⟨w', h1, h2, h3⟩ := hr w hb
    unfold Oper.wp
    rw [exec_of_fits hns he, h1]
    exact hK _ _ h2 h3 trivial
  · have : (fun t => if o.dst = some t then (fun _ _ => True : Held) else fits H a t) = fits H a := by
      funext t
      rw [hd]
      simp
    rw [this]
    exact h
end Go.Proofs.YtpeahjocimhneaaGreatDoor
namespace Go.Proofs.YtpeahjocimhneaaGreatDoor
open Go.RowKit

/-- A reader's states, one behind another, by calls of a row. -/
def rdPh (w0 : World) (g : Nat) (gen : Int) (sy av : Value) (a : En) (cs : List CS) (c0 : CS) (h0 : cs[0]? = some c0) (hR : Rd w0 g c0 gen sy av a) : Phases where
  ph q w := Kept w0 w (fun k => k = g) ∧ ∃ c, cs[q]? = some c ∧ Rd w g c gen sy av a
  K a b := Kept a b (fun k => k = g)
  w0 := w0
  start := ⟨Kept.refl _ _, c0, h0, hR⟩
  refl w := Kept.refl w _
  trans h k := h.trans k
  grow h := Kept.of_below h
  stay h k := ⟨h.1.trans (Kept.of_below k), by obtain ⟨c, h1, h2⟩ := h.2; exact ⟨c, h1, Blk.below h2 k h2.lt⟩⟩
section
variable {w0 w : World} {g q : Nat} {gen : Int} {sy av : Value} {a : En} {cs : List CS} {c0 : CS} {h0 : cs[0]? = some c0} {hR : Rd w0 g c0 gen sy av a}
theorem rd_row {P : Program} {f : FuncId} {args : Array Value} {c c' : CS} {v : Value} (hw : (rdPh w0 g gen sy av a cs c0 h0 hR).ph q w) (hc : cs[q]? = some c) (hc' : cs[q + 1]? = some c')
    (h : Rd w g c gen sy av a → Calls P f args w fun e w' => e = .returned v ∧ Rd w' g c' gen sy av a ∧ w.grownBy w' (some g)) :
    Calls P f args w fun e w' => e = .returned v ∧ (rdPh w0 g gen sy av a cs c0 h0 hR).K w w' ∧ (rdPh w0 g gen sy av a cs c0 h0 hR).ph (q + 1) w' := by
  obtain ⟨h1, c2, h2, h3⟩ := hw
  obtain rfl : c2 = c := by rw [hc] at h2; exact (Option.some.inj h2).symm
  refine (h h3).mono ?_
  rintro e w' ⟨rfl, h4, h5⟩
  have hk : Kept w w' (fun k => k = g) := Kept.of_grown h5 fun k e => (Option.some.inj e).symm
  exact ⟨rfl, hk, h1.trans hk, c', hc', h4⟩
theorem rdPh_blk {b : Nat} {T : TypeId} {xs : Array Value} (h : (rdPh w0 g gen sy av a cs c0 h0 hR).ph q w) (hb : Blk w0 b T xs) (hn : b ≠ g) : Blk w b T xs := hb.keptK h.1 hn
/-- The reader's other cells lie as they lay. -/
theorem rdPh_cell {i : Nat} {v : Value} (hv : (rdC c0 gen sy av a)[i + 2]? = some v) : ∀ x : PW (rdPh w0 g gen sy av a cs c0 h0 hR), x.w.cell? ⟨g, i + 2, none⟩ = some v := fun x => by
  obtain ⟨q, h1, c, h2, h3⟩ := x.2
  refine (Blk.cell h3 (i + 2)).trans (Eq.trans ?_ hv)
  rcases i with _ | _ | _ | _ | _ | _ | i <;> rfl
theorem StrsAt.kept {w w' : World} {v : Value} {S : List (List UInt8)} {q : Nat} (h : StrsAt w v S) (hk : Kept w w' (fun k => k = q)) (hq : ∀ b, v.ownBlock = some b → b ≠ q) : StrsAt w' v S := by
  obtain ⟨a, c, h1, h2, h3, h4⟩ := h
  refine ⟨a, c, h1, h2, h3, fun i s hs => ?_⟩
  obtain ⟨h5, b, o, h6, h7⟩ := h4 i s hs
  have hb : b ≠ q := hq b (by rw [h1, h6]; rfl)
  exact ⟨h5, b, o, h6, hk.cell h7 hb⟩
end
end Go.Proofs.YtpeahjocimhneaaGreatDoor
namespace Go.Proofs.YtpeahjocimhneaaGreatDoor
open Go.RowKit Go.Maps Go.WideMaps
attribute [local go_sem] bs_toList bs_size

theorem txV_le (c : CS) : (txV c).length ≤ 48 := by
  unfold txV Num.ans
  cases h : c.2 with
  | true => simp
  | false =>
    cases hg : Num.getText c.1 48 with
    | none => simp
    | some p =>
      obtain ⟨t, k⟩ := p
      have := (Num.getText_only c.1 48 t k hg).1
      simp
      omega
theorem many_le (n : Int) (most : Nat) (c : CS) (h0 : 0 ≤ n) : (manyN n most c).1 ≤ most ∧ (manyN n most c).2.1.length = c.1.length := by
  unfold manyN
  split
  · exact ⟨Nat.zero_le _, rfl⟩
  · exact ⟨by simp only; omega, rfl⟩
theorem Kept.grow_row {a b c : World} {S : Nat → Prop} {row : Option Nat} (h : Kept a b S) (g : b.grownBy c row) (hr : ∀ k, row = some k → a.heap.size ≤ k) : Kept a c S :=
  ⟨g.os.trans h.os, g.tape.trans h.tape, g.output.trans h.output, Nat.le_trans h.size g.size, fun i hi hn => (g.block i (Nat.lt_of_lt_of_le hi h.size) (fun e => by have := hr i e.symm; omega)).trans (h.block i hi hn)⟩
set_option maxRecDepth 100000 in
set_option maxHeartbeats 4000000 in
theorem table_any (q : Nat) (c : CS) (gen : Int) (av : Value) (a : En) (w : World) (h : Rd w q c gen (.slice none 0 0) av a) (hl : c.1.length ≤ 1000000) (hg1 : -9223372036854775808 ≤ gen) (hg2 : gen ≤ 9223372036854775807) :
    Calls Tryz.prog 93 #[.pointer (some ⟨q, 0, none⟩)] w fun e w' => e = .returned (.tuple #[]) ∧ ∃ sv, Rd w' q (tabR gen (manyN (sV c) 240 (sN c)).1 [] (manyN (sV c) 240 (sN c)).2).2 gen sv av a ∧
      w'.ownsRow w.heap.size 9 1 sv (tabR gen (manyN (sV c) 240 (sN c)).1 [] (manyN (sV c) 240 (sN c)).2).1.length (strC (tabR gen (manyN (sV c) 240 (sN c)).1 [] (manyN (sV c) 240 (sN c)).2).1) ∧ Kept w w' (fun k => k = q) := by
  have ⟨i0, hin, hz0, hz1, hz2⟩ := info_parts (show (Tryz.prog.info? 9).map (fun i => (i.zero, i.size, i.bytes)) = some (some (.string ⟨#[]⟩), 1, 16) by kernel_rfl)
  have q1 := Lib.hid (RSm q c gen _ av a w h (by omega))
  obtain ⟨n0, hn0, hn1⟩ := sV_nat c
  rw [hn0] at q1 ⊢
  have hsl := sN_len c
  have q2 := Lib.hid (fun W (hR : Rd W q (sN c) gen (.slice none 0 0) av a) => many_any q n0 240 (sN c) gen _ av a W hR hn1 (by omega))
  have hml := many_le n0 240 (sN c) (by omega)
  generalize hM : manyN n0 240 (sN c) = M at *
  obtain ⟨N, c0⟩ := M
  simp only at hml q2 ⊢
  generalize sN c = cA at *
  clear hn0 hn1 hM
  go_enter Tryz.func93, Tryz.ntmps93
  go_wp2_with fail
  refine q1.out.mono ?_
  rintro e w1 ⟨rfl, hR1, hg1'⟩
  have k1 : Kept w w1 (fun k => k = q) := Kept.of_grown hg1' fun k e => (Option.some.inj e).symm
  go_wp2_with fail
  refine (q2.out _ hR1).mono ?_
  rintro e w2 ⟨rfl, hR2, hg2'⟩
  have k2 := k1.trans (Kept.of_grown hg2' fun k e => (Option.some.inj e).symm)
  have r0 : w2.ownsRow w.heap.size 9 1 (.slice none 0 0) ([] : List (List UInt8)).length (strC []) := World.ownsRow_nil _ _ _ _
  have hqw := h.lt
  clear q1 q2 hR1 hg1' k1 hg2' h
  go_wp2_with fail
  go_loopw [2, 10] (fun vl vi wr => ∃ (i : Nat) (last : List UInt8) (c1 : CS) (T : List (List UInt8)) (sv : Value), i ≤ N ∧ vi = .int .i64 (i : Int) ∧ vl = .string (bs last) ∧ last.length ≤ 48 * i ∧ T.length = i ∧ c1.1.length ≤ 1000000 ∧ Rd wr q c1 gen sv av a ∧ wr.ownsRow w.heap.size 9 1 sv T.length (strC T) ∧ Kept w wr (fun k => k = q) ∧ Hid (tabR gen N [] c0 = (T ++ (tabR gen (N - i) last c1).1, (tabR gen (N - i) last c1).2))) (fun _ vi _ => N - (intOf vi).toNat)
  case atStart => exact ⟨0, [], c0, [], _, Nat.zero_le _, rfl, rfl, Nat.zero_le _, rfl, by omega, hR2, r0, k2, Lib.hid rfl⟩
  clear hR2 r0 k2
  obtain ⟨i, last, c1, T, sv, hi, rfl, rfl, hla, hTi, hcl, hR, hrow, hk, HI⟩ := hrel
  subst hTi
  obtain ⟨sa, sc, rfl⟩ := row_form hrow
  have dg := (Blk.cell hR 2).trans (show _ = some (Value.int .i64 gen) from rfl)
  rcases (show T.length < N ∨ T.length = N by omega) with hil | hiN
  · have HN1 := Lib.hid (show N - T.length = (N - (T.length + 1)) + 1 by omega)
    by_cases hg3 : gen = 3
    · subst hg3
      have f3 : ((3 : Int) == 3) = true := rfl
      have qs := Lib.hid (RSm q c1 3 _ av a wr hR (by omega))
      obtain ⟨m0, hm0, hm1⟩ := sV_nat c1
      have hs1 := sN_len c1
      have HSTEP0 := Lib.hid (show tabR 3 (N - T.length) last c1 = ((last.take (manyN (sV c1) last.length (sN c1)).1 ++ txV (manyN (sV c1) last.length (sN c1)).2) :: (tabR 3 (N - (T.length + 1)) (last.take (manyN (sV c1) last.length (sN c1)).1 ++ txV (manyN (sV c1) last.length (sN c1)).2) (txN (manyN (sV c1) last.length (sN c1)).2)).1, (tabR 3 (N - (T.length + 1)) (last.take (manyN (sV c1) last.length (sN c1)).1 ++ txV (manyN (sV c1) last.length (sN c1)).2) (txN (manyN (sV c1) last.length (sN c1)).2)).2) by
        rw [HN1.out, tabR, if_pos rfl])
      rw [hm0] at qs HSTEP0
      have hml2 := many_le m0 last.length (sN c1) (by omega)
      have qm := Lib.hid (fun W (hR : Rd W q (sN c1) 3 (.slice sa T.length sc) av a) => many_any q m0 last.length (sN c1) 3 _ av a W hR hm1 (by omega))
      have HSTEP : Hid (tabR 3 (N - T.length) last c1 = ((last.take (manyN m0 last.length (sN c1)).1 ++ txV (manyN m0 last.length (sN c1)).2) :: (tabR 3 (N - (T.length + 1)) (last.take (manyN m0 last.length (sN c1)).1 ++ txV (manyN m0 last.length (sN c1)).2) (txN (manyN m0 last.length (sN c1)).2)).1, (tabR 3 (N - (T.length + 1)) (last.take (manyN m0 last.length (sN c1)).1 ++ txV (manyN m0 last.length (sN c1)).2) (txN (manyN m0 last.length (sN c1)).2)).2)) := HSTEP0
      clear HSTEP0
      generalize manyN m0 last.length (sN c1) = M2 at *
      obtain ⟨n, c2⟩ := M2
      simp only at hml2 qm
      have HSTEP : Hid (tabR 3 (N - T.length) last c1 = ((last.take n ++ txV c2) :: (tabR 3 (N - (T.length + 1)) (last.take n ++ txV c2) (txN c2)).1, (tabR 3 (N - (T.length + 1)) (last.take n ++ txV c2) (txN c2)).2)) := HSTEP
      have HMN := Lib.hid (show n ≤ last.length from hml2.1)
      generalize sN c1 = cB at *
      have hzl := bs_size last
      clear hm0 hm1
      go_wp2_with fail
      refine qs.out.mono ?_
      rintro e w3 ⟨rfl, hR1, hgA⟩
      go_wp2_with fail
      refine (qm.out _ hR1).mono ?_
      rintro e wr2 ⟨rfl, hR2, hgB⟩
      have hkA : Kept wr w3 (fun k => k = q) := Kept.of_grown hgA fun k e => (Option.some.inj e).symm
      have hkB := hkA.trans (Kept.of_grown hgB fun k e => (Option.some.inj e).symm)
      have hk2 := hk.trans hkB
      have hrow2 := ownsRow_kept hrow hkB (fun k hk e => by have h1 := tag_row hrow hk; rw [e, tag_blk hR] at h1; simp at h1)
      clear qs qm hR1 hgA hgB hkA hkB
      have hN := HMN.out
      have t2 := txV_le c2
      have hl2 : c2.1.length ≤ 1000000 := by omega
      have hx0 : (bs last).extract 0 n = bs (last.take n) := by rw [bs_extract]; simp
      have hz := bs_size last
      have htl : (last.take n).length ≤ last.length := by rw [List.length_take]; omega
      have HT3 := Lib.hid (txN_len c2)
      have HTK := Lib.hid (fun W (hR : Rd W q c2 3 (.slice sa T.length sc) av a) => RTx q c2 3 (.slice sa T.length sc) av a W hR (by omega))
      have HST := Lib.hid (show tabR 3 (N - T.length) last c1 = ((last.take n ++ txV c2) :: (tabR 3 (N - (T.length + 1)) (last.take n ++ txV c2) (txN c2)).1, (tabR 3 (N - (T.length + 1)) (last.take n ++ txV c2) (txN c2)).2) from HSTEP.out)
      have hadd : ∀ W, (Op.stringOp .add (bs (last.take n)) (bs (txV c2))).run Tryz.prog W = .ok (.string (bs (last.take n ++ txV c2))) W := fun W => run_add_bs (P := Tryz.prog) _ _ (by omega) W
      have hsl : (last.take n ++ txV c2).length ≤ 48 * (T.length + 1) := by rw [List.length_append]; omega
      generalize last.take n = lt at *
      generalize txV c2 = t at *
      generalize txN c2 = c3 at *
      generalize lt ++ t = s at *
      go_wp2_with fail
      refine wp_region_C (rdPh wr2 q 3 (.slice sa T.length sc) av a [c2, c3] c2 rfl hR2) [6] rfl (by kernel_rfl) (by kernel_rfl) (by kernel_rfl) (by kernel_rfl) ?_
      (refine lexc_one (by kernel_rfl) (by kernel_rfl) (by kernel_rfl) (by kernel_rfl) (fun K hK => ?_); go_big_quiet_step (fail); refine wpQuiet_nil (hK _ ?_); clear hK K); (refine lexc_one (by kernel_rfl) (by kernel_rfl) (by kernel_rfl) (by kernel_rfl) (fun K hK => ?_); go_big_quiet_step (fail); refine wpQuiet_nil (hK _ ?_); clear hK K)
      (refine lexc_val (v := .string (bs lt)) (by kernel_rfl) (by kernel_rfl) (fun _ _ h => by cases h) (by kernel_rfl) (by kernel_rfl) (fun W hW => by skip; go_simp) (lexc_put (type := 0) (pos := "") (fun K hK => ?_)); go_big_quiet_step (fail); refine wpQuiet_nil (hK _ ?_); clear hK K)
      (refine lexc_one (by kernel_rfl) (by kernel_rfl) (by kernel_rfl) (by kernel_rfl) (fun K hK => ?_); go_big_quiet_step (fail); refine wpQuiet_nil (hK _ ?_); clear hK K); (refine lexc_one (by kernel_rfl) (by kernel_rfl) (by kernel_rfl) (by kernel_rfl) (fun K hK => ?_); go_big_quiet_step (fail); refine wpQuiet_nil (hK _ ?_); clear hK K); (refine lexc_one (by kernel_rfl) (by kernel_rfl) (by kernel_rfl) (by kernel_rfl) (fun K hK => ?_); go_big_quiet_step (fail); refine wpQuiet_nil (hK _ ?_); clear hK K)
      (refine lexc_row 0 (f := 127) (args := #[.pointer (some ⟨q, 0, none⟩), .int .i64 48]) (v := .string (bs t)) (by kernel_rfl) (by kernel_rfl) (by kernel_rfl) (fun _ _ h => by cases h) (by kernel_rfl) (by kernel_rfl) (fun _ => by go_simp) (fun W hW => rd_row hW rfl rfl (HTK.out W)) (lexc_put (type := 0) (pos := "") (fun K hK => ?_)); go_big_quiet_step (fail); refine wpQuiet_nil (hK _ ?_); clear hK K)
      (refine lexc_one (by kernel_rfl) (by kernel_rfl) (by kernel_rfl) (by kernel_rfl) (fun K hK => ?_); go_big_quiet_step (fail); refine wpQuiet_nil (hK _ ?_); clear hK K); (refine lexc_one (by kernel_rfl) (by kernel_rfl) (by kernel_rfl) (by kernel_rfl) (fun K hK => ?_); go_big_quiet_step (fail); refine wpQuiet_nil (hK _ ?_); clear hK K)
      refine lexc_nil (by kernel_rfl) (by kernel_rfl) (by kernel_rfl) ?_
      rintro W3 hK3 ⟨_, c4, hc4, hR3⟩
      obtain rfl : c3 = c4 := Option.some.inj hc4
      simp only [hideAll]
      have hrow3 := ownsRow_kept hrow2 hK3 (fun k hk e => by have h1 := tag_row hrow2 hk; rw [e, tag_blk hR2] at h1; simp at h1)
      have hk3 := hk2.trans hK3
      have hqW := hR3.lt
      have d3 := (Blk.cell hR3 3).trans (show _ = some (Value.slice sa T.length sc) from rfl)
      have hnq : ∀ k, (Value.slice sa T.length sc).ownBlock = some k → k ≠ q := fun k hk e => by have h1 := tag_row hrow3 hk; rw [e, tag_blk hR3] at h1; simp at h1
      have HNQ := Lib.hid hnq
      clear hnq hrow2 hK3 hR2 hk2 HTK hadd hx0 hz htl hN HSTEP
      go_wp2_with (at_builtin; go_loud (refine wpList_append_own_at _ rfl _ _ 40 rfl w.heap.size 9 i0 (.string ⟨#[]⟩) 1 16 Tryz.underlying40 hin hz0 hz1 hz2 rfl (by decide) _ _ _ rfl (World.ownsRow.alloc hrow3 _) ⟨W3.heap.size, 0, none⟩ 1 1 [.string (bs s)] rfl rfl (cells_new W3 [.string (bs s)] 9 W3.heap.size rfl) (by simp [Value.oneCell']) (by unfold maxLen; omega) (by omega) (by simp; have := hk3.size; omega) ?_; intro v' w5 hown' hgrow hnil2 hloc; obtain ⟨sa', sc', rfl⟩ := row_form hown'; have hR5 : Rd w5 q c3 3 (.slice sa T.length sc) av a := Blk.grown (Blk.alloc hR3 _) hgrow (fun e => HNQ.out q e.symm rfl); have e5 := (Blk.cell hR5 3).trans (show _ = some (Value.slice sa T.length sc) from rfl); have fz5 := Blk.frozen hR5 3; have hk5 := (hk3.trans (Kept.alloc W3 _ _)).grow_row hgrow (fun k e => (hrow3.lt k e).1); clear hgrow hnil2 hloc))
      have hR6 : Rd (w5.setCell ⟨q, 3, none⟩ (.slice sa' (T.length + 1) sc')) q c3 3 (.slice sa' (T.length + 1) sc') av a := Blk.set_ hR5 3 _
      have hks : Kept w5 (w5.setCell ⟨q, 3, none⟩ (.slice sa' (T.length + 1) sc')) (fun k => k = q) := Kept.of_grown (grown_set _ _ _ _) fun k e => (Option.some.inj e).symm
      have hrow6 := ownsRow_kept hown' hks (fun k hk e => by have h1 := tag_row hown' hk; rw [e, tag_blk hR5] at h1; simp at h1)
      go_roundw
      case rel =>
        refine ⟨T.length + 1, s, c3, T ++ [s], _, by omega, by go_num, rfl, hsl, by simp, by have := HT3.out; omega, hR6, ?_, hk5.trans hks, Lib.hid ?_⟩
        · rw [show strC (T ++ [s]) = strC T ++ [.string (bs s)] by simp [strC], List.length_append]
          exact hrow6
        · rw [HI.out, HST.out]
          simp
      case measure => simp [intOf]; omega
    · have f3 : (gen == 3) = false := by simpa using hg3
      have HSTEP := Lib.hid (show tabR gen (N - T.length) last c1 = (txV c1 :: (tabR gen (N - (T.length + 1)) (txV c1) (txN c1)).1, (tabR gen (N - (T.length + 1)) (txV c1) (txN c1)).2) by
        rw [HN1.out, tabR, if_neg hg3]; simp only [List.take_zero, List.nil_append])
      have HMN := Lib.hid (show (0 : Nat) ≤ last.length from Nat.zero_le _)
      clear hg3
      have hR2 := hR
      have hrow2 := hrow
      have hk2 := hk
      have hN := HMN.out
      have t2 := txV_le c1
      have hl2 : c1.1.length ≤ 1000000 := by omega
      have HT3 := Lib.hid (txN_len c1)
      have HTK := Lib.hid (fun W (hR : Rd W q c1 gen (.slice sa T.length sc) av a) => RTx q c1 gen (.slice sa T.length sc) av a W hR (by omega))
      have HST := Lib.hid (show tabR gen (N - T.length) last c1 = ((txV c1) :: (tabR gen (N - (T.length + 1)) (txV c1) (txN c1)).1, (tabR gen (N - (T.length + 1)) (txV c1) (txN c1)).2) from HSTEP.out)
      have hsl : (txV c1).length ≤ 48 * (T.length + 1) := by omega
      generalize txV c1 = s at *
      generalize txN c1 = c3 at *
      go_wp2_with fail
      refine wp_region_C (rdPh wr q gen (.slice sa T.length sc) av a [c1, c3] c1 rfl hR2) [6] rfl (by kernel_rfl) (by kernel_rfl) (by kernel_rfl) (by kernel_rfl) ?_
      (refine lexc_one (by kernel_rfl) (by kernel_rfl) (by kernel_rfl) (by kernel_rfl) (fun K hK => ?_); go_big_quiet_step (fail); refine wpQuiet_nil (hK _ ?_); clear hK K); (refine lexc_one (by kernel_rfl) (by kernel_rfl) (by kernel_rfl) (by kernel_rfl) (fun K hK => ?_); go_big_quiet_step (fail); refine wpQuiet_nil (hK _ ?_); clear hK K)
      (refine lexc_val (v := .string ByteArray.empty) (by kernel_rfl) (by kernel_rfl) (fun _ _ h => by cases h) (by kernel_rfl) (by kernel_rfl) (fun W hW => by skip; go_simp) (lexc_put (type := 0) (pos := "") (fun K hK => ?_)); go_big_quiet_step (fail); refine wpQuiet_nil (hK _ ?_); clear hK K)
      (refine lexc_one (by kernel_rfl) (by kernel_rfl) (by kernel_rfl) (by kernel_rfl) (fun K hK => ?_); go_big_quiet_step (fail); refine wpQuiet_nil (hK _ ?_); clear hK K); (refine lexc_one (by kernel_rfl) (by kernel_rfl) (by kernel_rfl) (by kernel_rfl) (fun K hK => ?_); go_big_quiet_step (fail); refine wpQuiet_nil (hK _ ?_); clear hK K); (refine lexc_one (by kernel_rfl) (by kernel_rfl) (by kernel_rfl) (by kernel_rfl) (fun K hK => ?_); go_big_quiet_step (fail); refine wpQuiet_nil (hK _ ?_); clear hK K)
      (refine lexc_row 0 (f := 127) (args := #[.pointer (some ⟨q, 0, none⟩), .int .i64 48]) (v := .string (bs s)) (by kernel_rfl) (by kernel_rfl) (by kernel_rfl) (fun _ _ h => by cases h) (by kernel_rfl) (by kernel_rfl) (fun _ => by go_simp) (fun W hW => rd_row hW rfl rfl (HTK.out W)) (lexc_put (type := 0) (pos := "") (fun K hK => ?_)); go_big_quiet_step (fail); refine wpQuiet_nil (hK _ ?_); clear hK K)
      (refine lexc_one (by kernel_rfl) (by kernel_rfl) (by kernel_rfl) (by kernel_rfl) (fun K hK => ?_); go_big_quiet_step (fail); refine wpQuiet_nil (hK _ ?_); clear hK K); (refine lexc_one (by kernel_rfl) (by kernel_rfl) (by kernel_rfl) (by kernel_rfl) (fun K hK => ?_); go_big_quiet_step (fail); refine wpQuiet_nil (hK _ ?_); clear hK K)
      refine lexc_nil (by kernel_rfl) (by kernel_rfl) (by kernel_rfl) ?_
      rintro W3 hK3 ⟨_, c4, hc4, hR3⟩
      obtain rfl : c3 = c4 := Option.some.inj hc4
      simp only [hideAll]
      have hrow3 := ownsRow_kept hrow2 hK3 (fun k hk e => by have h1 := tag_row hrow2 hk; rw [e, tag_blk hR2] at h1; simp at h1)
      have hk3 := hk2.trans hK3
      have hqW := hR3.lt
      have d3 := (Blk.cell hR3 3).trans (show _ = some (Value.slice sa T.length sc) from rfl)
      have hnq : ∀ k, (Value.slice sa T.length sc).ownBlock = some k → k ≠ q := fun k hk e => by have h1 := tag_row hrow3 hk; rw [e, tag_blk hR3] at h1; simp at h1
      have HNQ := Lib.hid hnq
      clear hnq hrow2 hK3 hR2 hk2 HTK hN HSTEP
      go_wp2_with (at_builtin; go_loud (refine wpList_append_own_at _ rfl _ _ 40 rfl w.heap.size 9 i0 (.string ⟨#[]⟩) 1 16 Tryz.underlying40 hin hz0 hz1 hz2 rfl (by decide) _ _ _ rfl (World.ownsRow.alloc hrow3 _) ⟨W3.heap.size, 0, none⟩ 1 1 [.string (bs s)] rfl rfl (cells_new W3 [.string (bs s)] 9 W3.heap.size rfl) (by simp [Value.oneCell']) (by unfold maxLen; omega) (by omega) (by simp; have := hk3.size; omega) ?_; intro v' w5 hown' hgrow hnil2 hloc; obtain ⟨sa', sc', rfl⟩ := row_form hown'; have hR5 : Rd w5 q c3 gen (.slice sa T.length sc) av a := Blk.grown (Blk.alloc hR3 _) hgrow (fun e => HNQ.out q e.symm rfl); have e5 := (Blk.cell hR5 3).trans (show _ = some (Value.slice sa T.length sc) from rfl); have fz5 := Blk.frozen hR5 3; have hk5 := (hk3.trans (Kept.alloc W3 _ _)).grow_row hgrow (fun k e => (hrow3.lt k e).1); clear hgrow hnil2 hloc))
      have hR6 : Rd (w5.setCell ⟨q, 3, none⟩ (.slice sa' (T.length + 1) sc')) q c3 gen (.slice sa' (T.length + 1) sc') av a := Blk.set_ hR5 3 _
      have hks : Kept w5 (w5.setCell ⟨q, 3, none⟩ (.slice sa' (T.length + 1) sc')) (fun k => k = q) := Kept.of_grown (grown_set _ _ _ _) fun k e => (Option.some.inj e).symm
      have hrow6 := ownsRow_kept hown' hks (fun k hk e => by have h1 := tag_row hown' hk; rw [e, tag_blk hR5] at h1; simp at h1)
      go_roundw
      case rel =>
        refine ⟨T.length + 1, s, c3, T ++ [s], _, by omega, by go_num, rfl, hsl, by simp, by have := HT3.out; omega, hR6, ?_, hk5.trans hks, Lib.hid ?_⟩
        · rw [show strC (T ++ [s]) = strC T ++ [.string (bs s)] by simp [strC], List.length_append]
          exact hrow6
        · rw [HI.out, HST.out]
          simp
      case measure => simp [intOf]; omega
  · have hrow3 := hrow
    have hI := HI.out
    rw [hiN, Nat.sub_self, show tabR gen 0 last c1 = ([], c1) from rfl, List.append_nil] at hI
    go_wp2_with fail
    go_end0
    refine ⟨rfl, .slice sa T.length sc, hR, ?_, hk⟩
    rw [← hiN]
    exact hrow
end Go.Proofs.YtpeahjocimhneaaGreatDoor
