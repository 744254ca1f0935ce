/- The walk of the law NumGets. -/
import Derived.Test.YtaeoghbmncpnlaaDoorNumR
namespace Go.Proofs.YtaeoghbmncpnlaaDoor
open Go.RowKit
attribute [local go_sem] bs_toList bs_size

theorem Cur.below {w w' : World} {g B : Nat} {s : List UInt8} {bad : Bool} (h : Cur w g s bad) (hb : Below B w w') (hg : g < B) : Cur w' g s bad := Blk.below h hb hg
theorem Cur.lt {w : World} {g : Nat} {s : List UInt8} {bad : Bool} (h : Cur w g s bad) : g < w.heap.size := Blk.lt h

def GetsRel (w : World) (G sl : Nat) (vs vb vi : Value) (wr : World) : Prop :=
  ∃ (i : Nat) (s : List UInt8) (bad : Bool), vs = .string (bs s) ∧ vb = .bool bad ∧ vi = .int .i64 (i : Int) ∧ i ≤ sl ∧ s.length ≤ 300 ∧ Cur wr G s bad ∧ Below w.heap.size w wr

theorem refN_is (l : List UInt8) (g : Option (Nat × Nat)) : ∃ (n : Int) (r : List UInt8) (ok : Bool), refN l g = .tuple #[.int .u64 n, .string (bs r), .bool ok] := by
  cases g with
  | none => exact ⟨0, l, false, rfl⟩
  | some x => exact ⟨x.1, l.drop x.2, true, rfl⟩
theorem refS_is (l : List UInt8) (g : Option (List UInt8 × Nat)) : ∃ (t r : List UInt8) (ok : Bool), refS l g = .tuple #[.string (bs t), .string (bs r), .bool ok] := by
  cases g with
  | none => exact ⟨[], l, false, rfl⟩
  | some x => exact ⟨x.1, l.drop x.2, true, rfl⟩

set_option maxRecDepth 100000 in
set_option maxHeartbeats 4000000 in
theorem NumGets_walk_open (s : List UInt8) (sa : Option Addr) (sl sc : Nat) (w : World) (h1 : s.length ≤ maxLen) (hA : AsksOpen w sa sl) :
    Calls Tryd.prog 4 #[.string (bs s), .slice sa sl sc] w fun e w' => e = .returned (.bool true) ∧ Below w.heap.size w w' := by
  obtain ⟨hsl, b, o, K, N, hA⟩ := hA
  unfold maxLen at h1 hsl
  by_cases hbig : 300 < s.length
  · go_enter Tryd.func4, Tryd.ntmps4
    go_wp2_with (go_at_call 10; refine (works_any _).mono ?_; rintro e w1 ⟨rfl, b1⟩)
    go_ret
    exact ⟨rfl, b1⟩
  by_cases hbig2 : 300 < sl
  · go_enter Tryd.func4, Tryd.ntmps4
    go_wp2_with (go_at_call 10; refine (works_any _).mono ?_; rintro e w1 ⟨rfl, b1⟩)
    go_ret
    exact ⟨rfl, b1⟩
  have hs0 : s.length ≤ 300 := by omega
  have hsl0 : sl ≤ 300 := by omega
  clear hbig hbig2 h1 hsl
  go_enter Tryd.func4, Tryd.ntmps4
  go_wp2_with fail
  refine (works_any _).mono ?_; rintro e w1 ⟨rfl, b1⟩
  go_wp2_with fail
  have hG := b1.size
  have hstart : GetsRel w w1.heap.size sl (.string (bs s)) (.bool false) (.int .i64 0) (w1.alloc (.cells #[.string (bs s), .bool false] 32)) :=
    ⟨0, s, false, rfl, rfl, rfl, by omega, hs0, Cur.new _ _ _, b1.alloc b1.size _⟩
  have Hst := Lib.hid hstart
  generalize w1.heap.size = G at *
  clear b1 hs0 hstart
  go_loopw [0, 7, 8] (fun vs vb vi wr => GetsRel w G sl vs vb vi wr) (fun _ _ vi _ => sl - (intOf vi).toNat)
  case atStart => exact Hst.out
  case round =>
    clear Hst
    obtain ⟨i, s, bad, rfl, rfl, rfl, hi, hs, q, hb⟩ := hrel
    by_cases hlt : i < sl
    · obtain ⟨rfl, hbl, hc0, hc1, hn1, hn2⟩ := hA i hlt
      replace hc0 := fun wx (h : Below w.heap.size w wx) => (h.cell (p := ⟨b, o + i * 2, none⟩) hbl).trans hc0
      rw [← Nat.add_assoc] at hc1
      replace hc1 := fun wx (h : Below w.heap.size w wx) => (h.cell (p := ⟨b, o + i * 2 + 1, none⟩) hbl).trans hc1
      have e0 := hc0 _ hb
      have hltI : (i : Int) < (sl : Int) := by omega
      have hr : ∀ (s' : List UInt8) (bad' : Bool) (wx : World), s'.length ≤ 300 → Cur wx G s' bad' → Below w.heap.size w wx → GetsRel w G sl (.string (bs s')) (.bool bad') (.int .i64 ((i : Int) + 1)) wx :=
        fun s' bad' wx h1 h2 h3 => ⟨i + 1, s', bad', rfl, rfl, by simp, by omega, h1, h2, h3⟩
      have Hr := Lib.hid hr
      have Hc0 := Lib.hid hc0
      have Hc1 := Lib.hid hc1
      clear hA hc0 hc1 hr
      generalize K i = k at *
      generalize N i = m at *
      by_cases hk0 : k = 0
      · subst hk0
        have rq := fun W => ref_GetSmall_any s W (by omega)
        by_cases hf : bad = true ∨ Num.getSmall s = none
        · have hv : ∃ (y : Int) (r' : List UInt8) (ok : Bool), refN s (Num.getSmall s) = .tuple #[.int .u64 y, .string (bs r'), .bool ok] ∧ (bad = true ∨ (bad = false ∧ ok = false)) := by
            cases bad with
            | true => obtain ⟨n', r', ok, hv⟩ := refN_is s (Num.getSmall s); exact ⟨n', r', ok, hv, .inl rfl⟩
            | false => have h := hf.resolve_left (by simp); rw [h]; exact ⟨0, s, false, rfl, .inr ⟨rfl, rfl⟩⟩
          obtain ⟨y, r', ok, hv, hok⟩ := hv
          have rq' := fun W => hv ▸ rq W
          have cq := fun W h => CSmall_fail G s bad W h (by omega) hf
          have hd : doneB s true = false := by simp [doneB]
          clear rq hv hf
          rcases hok with h | ⟨h, h'⟩
          all_goals
            subst h
            try subst h'
            go_wp2_with fail
            refine (cq _ q).mono ?_; rintro e w2 ⟨rfl, q2, g2⟩
            have hb2 := hb.grown g2 hb.size (by intro k hk; cases hk; omega)
            clear g2 q cq
            go_wp2_with fail
            refine (rq' _).mono ?_; rintro e w3 ⟨rfl, b3⟩
            have q3 := q2.below b3 q2.lt
            have hb3 := hb2.trans (b3.mono hb2.size)
            have x0 := q3.c0
            have x1 := q3.c1
            clear q2 b3 rq'
            go_wp2_with fail
            refine (CDone _ s true _ q3).mono ?_; rintro e w4 ⟨rfl, rfl⟩
            rw [hd]
            go_wp2
            go_roundw
            case rel => exact Hr.out s true _ hs q3 hb3
            case measure => simp [intOf]; omega
        · obtain rfl : bad = false := by simpa using fun h => hf (.inl h)
          obtain ⟨⟨v, kk⟩, hg⟩ : ∃ x, Num.getSmall s = some x := Option.ne_none_iff_exists'.1 fun h => hf (.inr h)
          have hv : refN s (Num.getSmall s) = .tuple #[.int .u64 ((v : Nat) : Int), .string (bs (s.drop kk)), .bool true] := by rw [hg]; rfl
          have rq' := fun W => hv ▸ rq W
          have cq := fun W h => CSmall_some G s v kk (s.drop kk) W h (by omega) hg rfl
          have hrl : (s.drop kk).length ≤ 300 := by simp; omega
          clear rq hv hg hf
          generalize s.drop kk = r at rq' cq hrl
          go_wp2_with fail
          refine (cq _ q).mono ?_; rintro e w2 ⟨rfl, q2, g2⟩
          have hb2 := hb.grown g2 hb.size (by intro k hk; cases hk; omega)
          clear g2 q
          go_wp2_with fail
          refine (rq' _).mono ?_; rintro e w3 ⟨rfl, b3⟩
          have q3 := q2.below b3 q2.lt
          have hb3 := hb2.trans (b3.mono hb2.size)
          have x0 := q3.c0
          have x1 := q3.c1
          clear q2 b3 rq' cq
          go_wp2_with fail
          refine (CDone _ r false _ q3).mono ?_; rintro e w4 ⟨rfl, rfl⟩
          have hd : doneB r false = r.isEmpty := by simp [doneB]
          rw [hd]
          go_wp2
          go_roundw
          case rel => exact Hr.out r false _ hrl q3 hb3
          case measure => simp [intOf]; omega
      by_cases hk1 : k = 1
      · subst hk1
        have rq := fun W => ref_GetWide_any s W (by omega)
        by_cases hf : bad = true ∨ Num.getWide s = none
        · have hv : ∃ (y : Int) (r' : List UInt8) (ok : Bool), refN s (Num.getWide s) = .tuple #[.int .u64 y, .string (bs r'), .bool ok] ∧ (bad = true ∨ (bad = false ∧ ok = false)) := by
            cases bad with
            | true => obtain ⟨n', r', ok, hv⟩ := refN_is s (Num.getWide s); exact ⟨n', r', ok, hv, .inl rfl⟩
            | false => have h := hf.resolve_left (by simp); rw [h]; exact ⟨0, s, false, rfl, .inr ⟨rfl, rfl⟩⟩
          obtain ⟨y, r', ok, hv, hok⟩ := hv
          have rq' := fun W => hv ▸ rq W
          have cq := fun W h => CWide_fail G s bad W h (by omega) hf
          have hd : doneB s true = false := by simp [doneB]
          clear rq hv hf
          rcases hok with h | ⟨h, h'⟩
          all_goals
            subst h
            try subst h'
            go_wp2_with fail
            refine (cq _ q).mono ?_; rintro e w2 ⟨rfl, q2, g2⟩
            have hb2 := hb.grown g2 hb.size (by intro k hk; cases hk; omega)
            clear g2 q cq
            go_wp2_with fail
            refine (rq' _).mono ?_; rintro e w3 ⟨rfl, b3⟩
            have q3 := q2.below b3 q2.lt
            have hb3 := hb2.trans (b3.mono hb2.size)
            have x0 := q3.c0
            have x1 := q3.c1
            clear q2 b3 rq'
            go_wp2_with fail
            refine (CDone _ s true _ q3).mono ?_; rintro e w4 ⟨rfl, rfl⟩
            rw [hd]
            go_wp2
            go_roundw
            case rel => exact Hr.out s true _ hs q3 hb3
            case measure => simp [intOf]; omega
        · obtain rfl : bad = false := by simpa using fun h => hf (.inl h)
          obtain ⟨⟨v, kk⟩, hg⟩ : ∃ x, Num.getWide s = some x := Option.ne_none_iff_exists'.1 fun h => hf (.inr h)
          have hv : refN s (Num.getWide s) = .tuple #[.int .u64 ((v : Nat) : Int), .string (bs (s.drop kk)), .bool true] := by rw [hg]; rfl
          have rq' := fun W => hv ▸ rq W
          have cq := fun W h => CWide_some G s v kk (s.drop kk) W h (by omega) hg rfl
          have hrl : (s.drop kk).length ≤ 300 := by simp; omega
          clear rq hv hg hf
          generalize s.drop kk = r at rq' cq hrl
          go_wp2_with fail
          refine (cq _ q).mono ?_; rintro e w2 ⟨rfl, q2, g2⟩
          have hb2 := hb.grown g2 hb.size (by intro k hk; cases hk; omega)
          clear g2 q
          go_wp2_with fail
          refine (rq' _).mono ?_; rintro e w3 ⟨rfl, b3⟩
          have q3 := q2.below b3 q2.lt
          have hb3 := hb2.trans (b3.mono hb2.size)
          have x0 := q3.c0
          have x1 := q3.c1
          clear q2 b3 rq' cq
          go_wp2_with fail
          refine (CDone _ r false _ q3).mono ?_; rintro e w4 ⟨rfl, rfl⟩
          have hd : doneB r false = r.isEmpty := by simp [doneB]
          rw [hd]
          go_wp2
          go_roundw
          case rel => exact Hr.out r false _ hrl q3 hb3
          case measure => simp [intOf]; omega
      by_cases hk2 : k = 2
      · subst hk2
        have e1 := Hc1.out _ hb
        have rq := fun W => ref_GetText_any s m W (by omega) hn1 hn2
        by_cases hf : bad = true ∨ Num.getText s m = none
        · have hv : ∃ (y : List UInt8) (r' : List UInt8) (ok : Bool), refS s (Num.getText s m) = .tuple #[.string (bs y), .string (bs r'), .bool ok] ∧ (bad = true ∨ (bad = false ∧ ok = false)) := by
            cases bad with
            | true => obtain ⟨n', r', ok, hv⟩ := refS_is s (Num.getText s m); exact ⟨n', r', ok, hv, .inl rfl⟩
            | false => have h := hf.resolve_left (by simp); rw [h]; exact ⟨[], s, false, rfl, .inr ⟨rfl, rfl⟩⟩
          obtain ⟨y, r', ok, hv, hok⟩ := hv
          have rq' := fun W => hv ▸ rq W
          have cq := fun W h => CText_fail G s bad m W h (by omega) hn1 hn2 hf
          have hd : doneB s true = false := by simp [doneB]
          clear rq hv hf
          rcases hok with h | ⟨h, h'⟩
          all_goals
            subst h
            try subst h'
            go_wp2_with fail
            refine (cq _ q).mono ?_; rintro e w2 ⟨rfl, q2, g2⟩
            have hb2 := hb.grown g2 hb.size (by intro k hk; cases hk; omega)
            have e2 := Hc1.out _ hb2
            clear g2 q cq
            go_wp2_with fail
            refine (rq' _).mono ?_; rintro e w3 ⟨rfl, b3⟩
            have q3 := q2.below b3 q2.lt
            have hb3 := hb2.trans (b3.mono hb2.size)
            have x0 := q3.c0
            have x1 := q3.c1
            clear q2 b3 rq'
            go_wp2_with fail
            refine (CDone _ s true _ q3).mono ?_; rintro e w4 ⟨rfl, rfl⟩
            rw [hd]
            go_wp2
            go_roundw
            case rel => exact Hr.out s true _ hs q3 hb3
            case measure => simp [intOf]; omega
        · obtain rfl : bad = false := by simpa using fun h => hf (.inl h)
          obtain ⟨⟨v, kk⟩, hg⟩ : ∃ x, Num.getText s m = some x := Option.ne_none_iff_exists'.1 fun h => hf (.inr h)
          have hv : refS s (Num.getText s m) = .tuple #[.string (bs v), .string (bs (s.drop kk)), .bool true] := by rw [hg]; rfl
          have rq' := fun W => hv ▸ rq W
          have cq := fun W h => CText_some G s m v kk (s.drop kk) W h (by omega) hn1 hn2 hg rfl
          have hrl : (s.drop kk).length ≤ 300 := by simp; omega
          clear rq hv hg hf
          generalize s.drop kk = r at rq' cq hrl
          go_wp2_with fail
          refine (cq _ q).mono ?_; rintro e w2 ⟨rfl, q2, g2⟩
          have hb2 := hb.grown g2 hb.size (by intro k hk; cases hk; omega)
          have e2 := Hc1.out _ hb2
          clear g2 q
          go_wp2_with fail
          refine (rq' _).mono ?_; rintro e w3 ⟨rfl, b3⟩
          have q3 := q2.below b3 q2.lt
          have hb3 := hb2.trans (b3.mono hb2.size)
          have x0 := q3.c0
          have x1 := q3.c1
          clear q2 b3 rq' cq
          go_wp2_with fail
          refine (CDone _ r false _ q3).mono ?_; rintro e w4 ⟨rfl, rfl⟩
          have hd : doneB r false = r.isEmpty := by simp [doneB]
          rw [hd]
          go_wp2
          go_roundw
          case rel => exact Hr.out r false _ hrl q3 hb3
          case measure => simp [intOf]; omega
      by_cases hk3 : k = 3
      · subst hk3
        have e1 := Hc1.out _ hb
        have rq := fun W => ref_GetFixed_any s m W (by omega)
        by_cases hf : bad = true ∨ Num.getFixed s m = none
        · have hv : ∃ (y : List UInt8) (r' : List UInt8) (ok : Bool), refS s (Num.getFixed s m) = .tuple #[.string (bs y), .string (bs r'), .bool ok] ∧ (bad = true ∨ (bad = false ∧ ok = false)) := by
            cases bad with
            | true => obtain ⟨n', r', ok, hv⟩ := refS_is s (Num.getFixed s m); exact ⟨n', r', ok, hv, .inl rfl⟩
            | false => have h := hf.resolve_left (by simp); rw [h]; exact ⟨[], s, false, rfl, .inr ⟨rfl, rfl⟩⟩
          obtain ⟨y, r', ok, hv, hok⟩ := hv
          have rq' := fun W => hv ▸ rq W
          have cq := fun W h => CFixed_fail G s bad m W h (by omega) hn1 hn2 hf
          have hd : doneB s true = false := by simp [doneB]
          clear rq hv hf
          rcases hok with h | ⟨h, h'⟩
          all_goals
            subst h
            try subst h'
            go_wp2_with fail
            refine (cq _ q).mono ?_; rintro e w2 ⟨rfl, q2, g2⟩
            have hb2 := hb.grown g2 hb.size (by intro k hk; cases hk; omega)
            have e2 := Hc1.out _ hb2
            clear g2 q cq
            go_wp2_with fail
            refine (rq' _).mono ?_; rintro e w3 ⟨rfl, b3⟩
            have q3 := q2.below b3 q2.lt
            have hb3 := hb2.trans (b3.mono hb2.size)
            have x0 := q3.c0
            have x1 := q3.c1
            clear q2 b3 rq'
            go_wp2_with fail
            refine (CDone _ s true _ q3).mono ?_; rintro e w4 ⟨rfl, rfl⟩
            rw [hd]
            go_wp2
            go_roundw
            case rel => exact Hr.out s true _ hs q3 hb3
            case measure => simp [intOf]; omega
        · obtain rfl : bad = false := by simpa using fun h => hf (.inl h)
          obtain ⟨⟨v, kk⟩, hg⟩ : ∃ x, Num.getFixed s m = some x := Option.ne_none_iff_exists'.1 fun h => hf (.inr h)
          have hv : refS s (Num.getFixed s m) = .tuple #[.string (bs v), .string (bs (s.drop kk)), .bool true] := by rw [hg]; rfl
          have rq' := fun W => hv ▸ rq W
          have cq := fun W h => CFixed_some G s m v kk (s.drop kk) W h (by omega) hn1 hn2 hg rfl
          have hrl : (s.drop kk).length ≤ 300 := by simp; omega
          clear rq hv hg hf
          generalize s.drop kk = r at rq' cq hrl
          go_wp2_with fail
          refine (cq _ q).mono ?_; rintro e w2 ⟨rfl, q2, g2⟩
          have hb2 := hb.grown g2 hb.size (by intro k hk; cases hk; omega)
          have e2 := Hc1.out _ hb2
          clear g2 q
          go_wp2_with fail
          refine (rq' _).mono ?_; rintro e w3 ⟨rfl, b3⟩
          have q3 := q2.below b3 q2.lt
          have hb3 := hb2.trans (b3.mono hb2.size)
          have x0 := q3.c0
          have x1 := q3.c1
          clear q2 b3 rq' cq
          go_wp2_with fail
          refine (CDone _ r false _ q3).mono ?_; rintro e w4 ⟨rfl, rfl⟩
          have hd : doneB r false = r.isEmpty := by simp [doneB]
          rw [hd]
          go_wp2
          go_roundw
          case rel => exact Hr.out r false _ hrl q3 hb3
          case measure => simp [intOf]; omega
      have c0 : (k == 0) = false := by simpa using hk0
      have c1 : (k == 1) = false := by simpa using hk1
      have c2 : (k == 2) = false := by simpa using hk2
      have c3 : (k == 3) = false := by simpa using hk3
      have e1 := Hc1.out _ hb
      have rq := fun W => ref_GetTake_any s m W (by omega) hn1 hn2
      by_cases hf : bad = true ∨ Num.getTake s m = none
      · have hv : ∃ (y : List UInt8) (r' : List UInt8) (ok : Bool), refS s (Num.getTake s m) = .tuple #[.string (bs y), .string (bs r'), .bool ok] ∧ (bad = true ∨ (bad = false ∧ ok = false)) := by
          cases bad with
          | true => obtain ⟨n', r', ok, hv⟩ := refS_is s (Num.getTake s m); exact ⟨n', r', ok, hv, .inl rfl⟩
          | false => have h := hf.resolve_left (by simp); rw [h]; exact ⟨[], s, false, rfl, .inr ⟨rfl, rfl⟩⟩
        obtain ⟨y, r', ok, hv, hok⟩ := hv
        have rq' := fun W => hv ▸ rq W
        have cq := fun W h => CTake_fail G s bad m W h (by omega) hn1 hn2 hf
        have hd : doneB s true = false := by simp [doneB]
        clear rq hv hf
        rcases hok with h | ⟨h, h'⟩
        all_goals
          subst h
          try subst h'
          go_wp2_with fail
          refine (cq _ q).mono ?_; rintro e w2 ⟨rfl, q2, g2⟩
          have hb2 := hb.grown g2 hb.size (by intro k hk; cases hk; omega)
          have e2 := Hc1.out _ hb2
          clear g2 q cq
          go_wp2_with fail
          refine (rq' _).mono ?_; rintro e w3 ⟨rfl, b3⟩
          have q3 := q2.below b3 q2.lt
          have hb3 := hb2.trans (b3.mono hb2.size)
          have x0 := q3.c0
          have x1 := q3.c1
          clear q2 b3 rq'
          go_wp2_with fail
          refine (CDone _ s true _ q3).mono ?_; rintro e w4 ⟨rfl, rfl⟩
          rw [hd]
          go_wp2
          go_roundw
          case rel => exact Hr.out s true _ hs q3 hb3
          case measure => simp [intOf]; omega
      · obtain rfl : bad = false := by simpa using fun h => hf (.inl h)
        obtain ⟨⟨v, kk⟩, hg⟩ : ∃ x, Num.getTake s m = some x := Option.ne_none_iff_exists'.1 fun h => hf (.inr h)
        have hv : refS s (Num.getTake s m) = .tuple #[.string (bs v), .string (bs (s.drop kk)), .bool true] := by rw [hg]; rfl
        have rq' := fun W => hv ▸ rq W
        have cq := fun W h => CTake_some G s m v kk (s.drop kk) W h (by omega) hn1 hn2 hg rfl
        have hrl : (s.drop kk).length ≤ 300 := by simp; omega
        clear rq hv hg hf
        generalize s.drop kk = r at rq' cq hrl
        go_wp2_with fail
        refine (cq _ q).mono ?_; rintro e w2 ⟨rfl, q2, g2⟩
        have hb2 := hb.grown g2 hb.size (by intro k hk; cases hk; omega)
        have e2 := Hc1.out _ hb2
        clear g2 q
        go_wp2_with fail
        refine (rq' _).mono ?_; rintro e w3 ⟨rfl, b3⟩
        have q3 := q2.below b3 q2.lt
        have hb3 := hb2.trans (b3.mono hb2.size)
        have x0 := q3.c0
        have x1 := q3.c1
        clear q2 b3 rq' cq
        go_wp2_with fail
        refine (CDone _ r false _ q3).mono ?_; rintro e w4 ⟨rfl, rfl⟩
        have hd : doneB r false = r.isEmpty := by simp [doneB]
        rw [hd]
        go_wp2
        go_roundw
        case rel => exact Hr.out r false _ hrl q3 hb3
        case measure => simp [intOf]; omega
    · have hge : ¬ (i : Int) < (sl : Int) := by omega
      clear hA
      go_wp2
      go_ret
      exact ⟨rfl, hb⟩
end Go.Proofs.YtaeoghbmncpnlaaDoor
