/- Files on a machine: what survives of a file. -/
import Derived.Test.YtocfaffiifhggaaSimQ
namespace Go.Proofs.Ytocfaffiifhggaa
open Go.RowKit Go.Maps Go.WideMaps
attribute [local go_sem] bs_toList bs_size

theorem Fits.at {B : Nat} : ∀ {cs : List Chg} {s : List UInt8} {j : Nat} {c : Chg}, Fits B cs s → cs[j]? = some c → (∀ n, c = .cut n → n ≤ (replay (cs.take j) s).length) ∧ (replay (cs.take j) s).length ≤ B ∧ (c.to (replay (cs.take j) s)).length ≤ B
  | [], _, _, _, _, h => by simp at h
  | d :: cs, s, 0, c, h, e => by
    obtain rfl : d = c := by simpa using e
    exact ⟨h.2.1, h.1, h.2.2.head⟩
  | d :: cs, s, j + 1, c, h, e => by
    have := Fits.at (cs := cs) (j := j) (c := c) h.2.2 (by simpa using e)
    exact this
theorem Fits.fitsAt {B : Nat} (hB : B ≤ 1099511627776) {cs : List Chg} {s : List UInt8} {j : Nat} {c : Chg} (h : Fits B cs s) (e : cs[j]? = some c) : c.fits (replay (cs.take j) s) := by
  obtain ⟨h1, h2, h3⟩ := h.at e
  cases c with
  | app a =>
    have h4 : (replay (cs.take j) s ++ a).length ≤ B := h3
    simp only [List.length_append] at h4
    show _ + _ ≤ _
    omega
  | cut n => exact ⟨h1 n rfl, by omega⟩

section
variable {w : World} {g : Nat} {x : Fl} {ch : Value}

theorem row_cell {w : World} {c cap n : Nat} {xs : List Value} {e : TypeId} (h : w.ownsRow 0 e 1 (.slice (some ⟨c, 0, none⟩) n cap) n xs) (j : Nat) {u : Value} (hj : xs[j]? = some u) : w.cell? ⟨c, j, none⟩ = some u := by
  have := h.cells (g := c) rfl j u hj
  have hadd : (⟨c, 0, none⟩ : Addr).add j = ⟨c, j, none⟩ := by unfold Addr.add; split <;> simp_all
  rwa [hadd] at this

set_option maxRecDepth 100000 in
theorem survive_nil_any (k n : Nat) (h : FileAt w g x.sy x.nw (.slice none 0 0)) (hx : x.ch = []) :
    Calls Try.prog 46 #[.pointer (some ⟨g, 0, none⟩), .int .i64 (k : Int), .int .i64 (n : Int)] w fun e w' => e = .returned (.tuple #[]) ∧ FileAt w' g (x.left k n) (x.left k n) (.slice none 0 0) ∧ w.grownBy w' (some g) := by
  rw [Fl.survive_still hx]
  obtain ⟨c0, c1, c2⟩ := h.c
  have f1 := Blk.frozen h 1
  have hP : FileAt (w.setCell ⟨g, 1, none⟩ (.string (bs x.sy))) g x.sy x.sy (.slice none 0 0) := Blk.set_ h 1 (.string (bs x.sy))
  have q := Lib.hid (file_sync_any hP)
  clear hP
  go_enter Try.func46, Try.ntmps46
  go_wp2_with fail
  refine wp_loop_rounds 1 ?_
  rw [rounds_succ]
  go_wp2_with fail
  refine q.out.mono ?_
  rintro e w' ⟨rfl, h1, h2⟩
  have R := Lib.hid (And.intro h1 (grown_trans' (grown_set _ _ _ _) h2))
  clear h1 h2
  go_wp2
  go_end0
  exact ⟨rfl, R.out⟩

set_option maxRecDepth 100000 in
set_option maxHeartbeats 1000000 in
theorem survive_row_any {B c cap : Nat} (k n : Nat) (h : FileAt w g x.sy x.nw (.slice (some ⟨c, 0, none⟩) x.ch.length cap)) (hr : ChRow w 0 (.slice (some ⟨c, 0, none⟩) x.ch.length cap) x.ch) (hok : x.ok B 1000000) (hB : B ≤ 549755813888)
    (hk : k ≤ 9223372036854775807) (hn : n ≤ 9223372036854775807) :
    Calls Try.prog 46 #[.pointer (some ⟨g, 0, none⟩), .int .i64 (k : Int), .int .i64 (n : Int)] w fun e w' => e = .returned (.tuple #[]) ∧ FileAt w' g (x.left k n) (x.left k n) (.slice none 0 0) ∧ w.grownBy w' (some g) := by
  obtain ⟨c0, c1, c2⟩ := h.c
  have f1 := Blk.frozen h 1
  have hcap : x.ch.length ≤ cap := by
    rcases hr.2 with ⟨e, _⟩ | ⟨g', cap', cur, e, _, _, h3, _⟩
    · cases e
    · obtain ⟨_, rfl⟩ : g' = c ∧ cap' = cap := by cases e; exact ⟨rfl, rfl⟩
      exact h3
  have hcell : ∀ j u, x.ch[j]? = some u → w.cell? ⟨c, j, none⟩ = some u.val := fun j u hj => row_cell hr j (by rw [List.getElem?_map, hj]; rfl)
  have hm : (k : Int).tmod ((x.ch.length : Int) + 1) = ((k % (x.ch.length + 1) : Nat) : Int) := by rw [Int.tmod_eq_emod_of_nonneg (by omega)]; rfl
  have hlt : k % (x.ch.length + 1) < x.ch.length + 1 := Nat.mod_lt _ (by omega)
  have hleft : x.left k n = match x.ch[k % (x.ch.length + 1)]? with | some c => c.part (replay (x.ch.take (k % (x.ch.length + 1))) x.sy) n | none => replay (x.ch.take (k % (x.ch.length + 1))) x.sy := rfl
  have hc := hok.count
  have hfit := hok.fits
  have q : ∀ s, Calls Try.prog 58 #[.pointer (some ⟨g, 0, none⟩)] (w.setCell ⟨g, 1, none⟩ (.string (bs s))) fun e w' => e = .returned (.tuple #[]) ∧ FileAt w' g s s (.slice none 0 0) ∧ w.grownBy w' (some g) := fun s => by
    have hP : FileAt (w.setCell ⟨g, 1, none⟩ (.string (bs s))) g x.sy s _ := Blk.set_ h 1 (.string (bs s))
    refine (file_sync_any hP).mono ?_
    rintro e w' ⟨rfl, h1, h2⟩
    exact ⟨rfl, h1, grown_trans' (grown_set _ _ _ _) h2⟩
  have Q := Lib.hid q
  have HC := Lib.hid hcell
  have HF := Lib.hid hfit
  have HL := Lib.hid hleft
  clear q hcell hfit hleft hr hok
  generalize x.left k n = res at *
  generalize k % (x.ch.length + 1) = m at *
  have hmI : (m : Int) ≤ (x.ch.length : Int) := by omega
  go_enter Try.func46, Try.ntmps46
  go_wp2_with fail
  go_loop [6, 28] (fun t i => ∃ j : Nat, j ≤ m ∧ i = .int .i64 (j : Int) ∧ t = .string (bs (replay (x.ch.take j) x.sy))) (fun _ i => m - (intOf i).toNat)
  case atStart => exact ⟨0, Nat.zero_le _, rfl, rfl⟩
  case round =>
    obtain ⟨j, hj, rfl, rfl⟩ := hrel
    by_cases hjm : j < m
    · obtain ⟨d, hd⟩ : ∃ d, x.ch[j]? = some d := ⟨x.ch[j]'(by omega), List.getElem?_eq_getElem (by omega)⟩
      have cj := HC.out j d hd
      have hf := HF.out.fitsAt (by omega) hd
      have hnext := Lib.hid (replay_take_succ hd x.sy)
      generalize replay (x.ch.take j) x.sy = cur at *
      cases d with
      | app a =>
        simp only [Chg.val] at cj
        have hna : ∀ W, (nilAhead 225 61 (.string (bs a)) "alluvium/simfs.to").run Try.prog W = .ok (some false) W := fun _ => by kernel_rfl
        have hme : ∀ W, (method 225 61 (.string (bs a)) "alluvium/simfs.to").run Try.prog W = .ok (100, .string (bs a)) W := fun _ => by kernel_rfl
        have q := Lib.hid (app_to_any a cur w (by have : cur.length + a.length ≤ 1099511627776 := hf; omega))
        go_wp2_with fail
        refine q.out.mono ?_
        rintro e w' ⟨rfl, rfl⟩
        go_wp2
        go_round
        case rel => exact ⟨j + 1, by omega, by go_num, by rw [hnext.out]; rfl⟩
        case measure => simp [intOf]; omega
      | cut b =>
        simp only [Chg.val] at cj
        have hna : ∀ W, (nilAhead 225 82 (.int .i64 (b : Int)) "alluvium/simfs.to").run Try.prog W = .ok (some false) W := fun _ => by kernel_rfl
        have hme : ∀ W, (method 225 82 (.int .i64 (b : Int)) "alluvium/simfs.to").run Try.prog W = .ok (102, .int .i64 (b : Int)) W := fun _ => by kernel_rfl
        have q := Lib.hid (cut_to_any b cur w hf.1 hf.2)
        go_wp2_with fail
        refine q.out.mono ?_
        rintro e w' ⟨rfl, rfl⟩
        go_wp2
        go_round
        case rel => exact ⟨j + 1, by omega, by go_num, by rw [hnext.out]; rfl⟩
        case measure => simp [intOf]; omega
    · obtain rfl : j = m := by omega
      by_cases hjl : j < x.ch.length
      · obtain ⟨d, hd⟩ : ∃ d, x.ch[j]? = some d := ⟨x.ch[j]'(by omega), List.getElem?_eq_getElem (by omega)⟩
        have cj := HC.out j d hd
        have hf := HF.out.fitsAt (by omega) hd
        have hl := HL.out
        rw [hd] at hl
        simp only [] at hl
        generalize replay (x.ch.take j) x.sy = cur at *
        have HL2 := Lib.hid hl
        clear hl
        cases d with
        | app a =>
          simp only [Chg.val] at cj
          have hna : ∀ W, (nilAhead 225 61 (.string (bs a)) "alluvium/simfs.part").run Try.prog W = .ok (some false) W := fun _ => by kernel_rfl
          have hme : ∀ W, (method 225 61 (.string (bs a)) "alluvium/simfs.part").run Try.prog W = .ok (99, .string (bs a)) W := fun _ => by kernel_rfl
          have q := Lib.hid (app_part_any a cur n w hf hn)
          have QQ := Lib.hid (Q.out (cur ++ a.take (n % (a.length + 1))))
          go_wp2_with fail
          refine q.out.mono ?_
          rintro e w' ⟨rfl, rfl⟩
          go_wp2_with fail
          refine QQ.out.mono ?_
          rintro e w' ⟨rfl, r1, r2⟩
          have R := Lib.hid (And.intro r1 r2)
          clear r1 r2
          go_wp2
          go_end0
          rw [HL2.out]
          exact ⟨rfl, R.out⟩
        | cut b =>
          simp only [Chg.val] at cj
          have hna : ∀ W, (nilAhead 225 82 (.int .i64 (b : Int)) "alluvium/simfs.part").run Try.prog W = .ok (some false) W := fun _ => by kernel_rfl
          have hme : ∀ W, (method 225 82 (.int .i64 (b : Int)) "alluvium/simfs.part").run Try.prog W = .ok (101, .int .i64 (b : Int)) W := fun _ => by kernel_rfl
          have q := Lib.hid (cut_part_any (b : Int) n cur w)
          have QQ := Lib.hid (Q.out cur)
          go_wp2_with fail
          refine q.out.mono ?_
          rintro e w' ⟨rfl, rfl⟩
          go_wp2_with fail
          refine QQ.out.mono ?_
          rintro e w' ⟨rfl, r1, r2⟩
          have R := Lib.hid (And.intro r1 r2)
          clear r1 r2
          go_wp2
          go_end0
          rw [HL2.out]
          exact ⟨rfl, R.out⟩
      · have hl := HL.out
        rw [List.getElem?_eq_none (by omega)] at hl
        simp only [] at hl
        generalize replay (x.ch.take j) x.sy = cur at *
        have HL2 := Lib.hid hl
        clear hl
        have QQ := Lib.hid (Q.out cur)
        go_wp2_with fail
        refine QQ.out.mono ?_
        rintro e w' ⟨rfl, r1, r2⟩
        have R := Lib.hid (And.intro r1 r2)
        clear r1 r2
        go_wp2
        go_end0
        rw [HL2.out]
        exact ⟨rfl, R.out⟩
end
end Go.Proofs.Ytocfaffiifhggaa
