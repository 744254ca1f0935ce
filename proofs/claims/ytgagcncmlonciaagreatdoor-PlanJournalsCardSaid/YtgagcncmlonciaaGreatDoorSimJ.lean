/- Files on a machine: how many bytes there are; all names. -/
import Derived.Test.YtgagcncmlonciaaGreatDoorSG
import Derived.Test.YtgagcncmlonciaaGreatDoorIter
import Derived.Maps.RangeWalk
namespace Go.Proofs.YtgagcncmlonciaaGreatDoor
open Go.RowKit Go.Maps Go.WideMaps
attribute [local go_sem] bs_toList bs_size

def sumDone (fl : Nat → Fl) (N : Nm) (left : Lit → Bool) : Nat := ((N.filter fun p => !left (.string p.1)).map fun p => (fl p.2).nw.length).sum
theorem sumDone_start (fl : Nat → Fl) (N : Nm) : sumDone fl N (Maps.has N.data) = 0 := by
  unfold sumDone
  rw [List.filter_eq_nil_iff.2]
  · rfl
  · intro p hp
    rw [Nm.has_data]
    have : N.at p.1 ≠ none := fun e => Nm.at_none e p hp rfl
    cases h : N.at p.1 with
    | none => exact absurd h this
    | some g => simp
theorem sumDone_end (fl : Nat → Fl) (N : Nm) (left : Lit → Bool) (h : ∀ kl, left kl = false) : sumDone fl N left = sizeIn fl N := by
  unfold sumDone sizeIn
  rw [List.filter_eq_self.2 fun p _ => by rw [h]; rfl]
theorem sumDone_step (fl : Nat → Fl) (left : Lit → Bool) (l : List UInt8) (g : Nat) (hl : left (.string l) = true) : ∀ (N : Nm), (N.Pairwise fun p q => bytesBefore p.1 q.1 = true) → (l, g) ∈ N →
    sumDone fl N (fun z => left z && !z.sameKey (.string l)) = sumDone fl N left + (fl g).nw.length
  | [], _, h => by cases h
  | p :: r, hs, h => by
    obtain ⟨h1, h2⟩ := List.pairwise_cons.1 hs
    have e1 : ∀ q : List UInt8 × Nat, ((left (.string q.1) && !(Lit.string q.1).sameKey (.string l))) = (left (.string q.1) && !(q.1 == l)) := fun _ => rfl
    rcases List.mem_cons.1 h with rfl | h
    · have hr : ∀ q ∈ r, (q.1 == l) = false := fun q hq => by
        simp only [beq_eq_false_iff_ne, ne_eq]
        intro e
        have := h1 q hq
        rw [e] at this
        exact before_irrefl _ this
      have hf : (r.filter fun q => !(left (.string q.1) && !(q.1 == l))) = r.filter fun q => !left (.string q.1) := List.filter_congr fun q hq => by rw [hr q hq]; simp
      unfold sumDone
      simp only [e1]
      rw [List.filter_cons, List.filter_cons, hf]
      simp only [hl, beq_self_eq_true]
      simp
      omega
    · have hp : (p.1 == l) = false := by
        simp only [beq_eq_false_iff_ne, ne_eq]
        intro e
        have := h1 _ h
        rw [e] at this
        exact before_irrefl _ this
      have ih := sumDone_step fl left l g hl r h2 h
      unfold sumDone at ih ⊢
      simp only [e1] at ih ⊢
      rw [List.filter_cons, List.filter_cons, hp]
      cases left (.string p.1)
      · simp only [Bool.false_and, Bool.not_false, if_true, List.map_cons, List.sum_cons, ih]
        omega
      · simpa using ih

theorem sumDone_le (fl : Nat → Fl) (N : Nm) (left : Lit → Bool) (B : Nat) (h : ∀ g, (fl g).nw.length ≤ B) : sumDone fl N left ≤ N.length * B := by
  unfold sumDone
  induction N with
  | nil => simp
  | cons p r ih =>
    rw [List.filter_cons, List.length_cons, Nat.add_mul]
    have := h p.2
    split
    · simp only [List.map_cons, List.sum_cons]
      omega
    · omega

def mkP : Option Nat → Value
  | none => .pointer none
  | some g => .pointer (some ⟨g, 0, none⟩)
theorem mkP_inv {v : Value} {y : DataW Unit × List MemPlace} (h : ptrR v = some y) : ∃ c, v = mkP c := by
  unfold ptrR at h
  split at h
  · exact ⟨none, rfl⟩
  · exact ⟨some _, rfl⟩
  · cases h
theorem name_inv {key : Value} {kl : Lit} (h : keyOf Tryz.prog 9 key = some kl) : ∃ x : List UInt8, key = .string (bs x) := by
  obtain ⟨x, h1, _⟩ := Maps.keyOf_str Tryz.underlying9 h
  exact ⟨x, h1⟩

theorem mkP_get {c : Option Nat} {g : Nat} {ps : List MemPlace} (h : ptrR (mkP c) = some (.lit (.int .u64 (g : Int)), ps)) : c = some g := by
  cases c with
  | none => cases h
  | some k =>
    simp only [mkP, ptrR, Option.some.injEq, Prod.mk.injEq, DataW.lit.injEq, Lit.int.injEq] at h
    have := h.1.2
    congr 1
    omega
theorem name_get {x : List UInt8} {kl : Lit} (h : keyOf Tryz.prog 9 (.string (bs x)) = some kl) : kl = .string x := by
  obtain ⟨x', h1, h2, _⟩ := Maps.keyOf_str Tryz.underlying9 h
  have : bs x = bs x' := Value.string.inj h1
  rw [h2, bs_inj this]
theorem Nm.at_of_atKey {N : Nm} {l : List UInt8} {y : DataW Unit} (h : ∀ z, N.data.atKey (.string l) z = y) : ∃ g, N.at l = some g ∧ y = .lit (.int .u64 (g : Int)) := by
  cases hg : N.at l with
  | some g =>
    have := h .nil
    rw [Nm.atKey_data, hg] at this
    exact ⟨g, rfl, this.symm⟩
  | none =>
    have h1 := h .nil
    have h2 := h (.map [])
    rw [Nm.atKey_data, hg] at h1 h2
    exact absurd (h1.trans h2.symm) (by simp)

section
variable {w : World} {G : Nat} {S : FsS} {F : Nat → Prop}

theorem FsIs.liveN {nb sb : Nat} {mv : Value} {mbs : List Nat} {chv : Nat → Value} {l : List UInt8} {g : Nat} (_h : FsIs w G S F nb sb mv mbs chv) (hg : S.names.at l = some g) : S.live g := ⟨S.names, by simp [FsS.dirs], Nm.at_ids hg⟩

theorem size_bound (hok : S.ok) (hs : S.steps ≤ 500000) (left : Lit → Bool) : sumDone S.fl S.names left ≤ 35184372088832 := by
  have h := sumDone_le S.fl S.names left (bytesMost S.steps) fun g => (hok.files g).nw_le
  have h2 := (hok.dirs S.names (by simp [FsS.dirs])).2
  have h3 : S.names.length * bytesMost S.steps ≤ 64 * bytesMost S.steps := Nat.mul_le_mul_right _ h2
  unfold bytesMost at *
  omega

set_option maxRecDepth 100000 in
theorem Fs_Size_mem (h : FsMem w G S F) (hok : S.ok) (hs : S.steps ≤ 500000) :
    Calls Tryz.prog 156 #[.pointer (some ⟨G, 0, none⟩)] w fun e w' => e = .returned (.int .i64 (S.size : Int)) ∧ Below w.heap.size w w' := by
  obtain ⟨nb, sb, mv, mbs, chv, h⟩ := h
  obtain ⟨c0, c1, c2, c3, c4, c5, c6⟩ := h.fs.c
  have hD : w.ownsMap Tryz.prog 9 ptrR nb S.names.length S.names.data := h.nm
  have hb : nb < w.heap.size := hD.lt
  clear c1 c2 c3 c4 c5 c6
  go_enter Tryz.func156, Tryz.ntmps156
  go_wp2_with (first
    | (at_range; refine wpList_range_own _ rfl _ 47 rfl 9 79 (string_keyed Tryz.underlying9) Tryz.underlying47 _ nb S.names.length _ rfl hD ?_; intro w0 hrg0 hg0 hs0)
    | go_in)
  go_frame
  go_loopw [3] (fun n wr => ∃ (left : Lit → Bool) (cnt : Nat), n = .int .i64 (sumDone S.fl S.names left : Nat) ∧ wr.ranges Tryz.prog 9 ptrR nb w.heap.size S.names.length S.names.data left cnt ∧ Below w.heap.size w wr)
    (fun _ wr => wr.rangeLeft nb w.heap.size)
  case atStart => exact ⟨_, _, by rw [sumDone_start]; rfl, hrg0, (Below.refl _ w).grown hg0 (Nat.le_refl _) (fun k hk => by cases hk)⟩
  case round =>
    obtain ⟨left, cnt, rfl, hrg, hbw⟩ := hrel
    go_wp2_with (first
      | (at_next; refine wpList_next_ranges _ rfl _ rfl 9 (string_keyed Tryz.underlying9) ptrR (fun l => .string (bs l)) mkP (fun _ _ => name_inv) (fun _ _ => mkP_inv) nb w.heap.size _ _ _ _ rfl hrg ?_ ?_)
      | go_in)
    · intro _ hl0
      have he := sumDone_end S.fl S.names left hl0
      go_wp2
      go_ret
      exact ⟨by rw [he]; rfl, hbw⟩
    · intro x c kl d ps w1 cnt1 hkey hlk hv hat hrg1 hlt hg1 hs1 hen
      obtain rfl := name_get hkey
      obtain ⟨g, hg, rfl⟩ := Nm.at_of_atKey hat
      obtain rfl := mkP_get hv
      have hbw1 : Below w.heap.size w w1 := hbw.grown hg1 hbw.size (fun k hk => by cases hk; exact Nat.le_refl _)
      have hF1 : FileAt w1 g _ _ _ := Blk.below (h.fl g (h.liveN hg)).1 hbw1 (h.live_lt (h.liveN hg))
      have d1 := hF1.c.2.1
      have hst := sumDone_step S.fl left x g hlk S.names (hok.dirs S.names (by simp [FsS.dirs])).1.1 (Nm.mem_at hg)
      have hb1 := size_bound hok hs left
      have hb2 : (S.fl g).nw.length ≤ 1099511627776 := by
        have := (hok.files g).nw_le
        unfold bytesMost at this
        omega
      have HST := Lib.hid hst
      unfold mkP at hen
      clear hst hat hv hkey h hF1
      generalize sumDone S.fl S.names left = q at *
      go_wp2
      go_roundw
      case rel => exact ⟨_, cnt1, by rw [HST.out]; go_num, hrg1, hbw1⟩
      case measure => rw [hrg1.left_eq, hrg.left_eq]; exact hlt
theorem before_lt : ∀ (a b : List UInt8), bytesBefore a b = true → a < b
  | [], [], h => by cases h
  | [], _ :: _, _ => List.nil_lt_cons _ _
  | _ :: _, [], h => by cases h
  | a :: r, b :: s, h => by
    unfold bytesBefore at h
    simp only [Bool.or_eq_true, Bool.and_eq_true, decide_eq_true_eq, beq_iff_eq] at h
    rw [List.cons_lt_cons_iff]
    exact h.imp id fun ⟨h1, h2⟩ => ⟨h1, before_lt r s h2⟩

theorem keys_sorted {N : Nm} (h : N.ok) {ss : List (List UInt8)} (hp : ss.Perm (strKeys N.data)) : ss.mergeSort (fun x y => decide (x ≤ y)) = N.keys := by
  rw [Nm.keys_data] at hp
  have tr : ∀ a b c : List UInt8, leB a b = true → leB b c = true → leB a c = true := fun a b c h1 h2 => by simp only [leB, decide_eq_true_eq] at *; exact List.le_trans h1 h2
  have tot : ∀ a b : List UInt8, (leB a b || leB b a) = true := fun a b => by simp only [leB, Bool.or_eq_true, decide_eq_true_eq]; exact List.le_total a b
  refine List.Perm.eq_of_pairwise (le := fun a b => leB a b = true) (fun a b _ _ h1 h2 => ?_) (List.pairwise_mergeSort tr tot ss) ?_ ((List.mergeSort_perm ss leB).trans hp)
  · simp only [leB, decide_eq_true_eq] at h1 h2
    exact List.le_antisymm h1 h2
  · refine List.pairwise_map.2 (h.1.imp fun {a b} hab => ?_)
    simp only [leB, decide_eq_true_eq]
    exact List.le_of_lt (before_lt _ _ hab)

/-- Texts in a slice of the call's own. -/
def TextsAt (w : World) (base : Nat) (v : Value) (l : List (List UInt8)) : Prop := w.ownsRow base 9 1 v l.length (l.map fun x => .string (bs x)) ∧ (v = .slice none 0 0 ↔ l = [])

set_option maxRecDepth 100000 in
theorem Fs_List_mem (h : FsMem w G S F) (hok : S.ok) :
    Calls Tryz.prog 55 #[.pointer (some ⟨G, 0, none⟩)] w fun e w' => (∃ v, e = .returned v ∧ TextsAt w' w.heap.size v S.names.keys) ∧ Below w.heap.size w w' := by
  obtain ⟨nb, sb, mv, mbs, chv, h⟩ := h
  obtain ⟨c0, c1, c2, c3, c4, c5, c6⟩ := h.fs.c
  have hD : w.ownsMap Tryz.prog 9 ptrR nb S.names.length S.names.data := h.nm
  have hN := hok.dirs S.names (by simp [FsS.dirs])
  have q1 := callsIn_wide.1 (Tryz.maps_Keys_105 (some nb) w)
  have q2 := callsIn_wide.1 (Tryz.slices_Sorted_keys_104_105 nb _ _ ptrR w hD (by rw [Nm.size_data]; unfold maxLen; omega) (by rw [Nm.size_data]; omega))
  clear c1 c2 c3 c4 c5 c6
  go_enter Tryz.func55, Tryz.ntmps55
  go_wp2_with fail
  refine q1.mono ?_
  rintro e w' ⟨rfl, rfl⟩
  go_wp2_with fail
  refine q2.mono ?_
  rintro e w' ⟨v, ss, rfl, hp, hown, hnil, hb⟩
  have hs := keys_sorted hN.1 hp
  rw [hs] at hown
  have hl : ss.length = S.names.keys.length := by
    rw [hp.length_eq, Nm.keys_data]
  rw [hl] at hown
  have R : TextsAt w' w.heap.size v S.names.keys := by
    refine ⟨⟨hown.1, ?_⟩, hnil.trans ?_⟩
    · rcases hown.2 with h2 | ⟨g, cap, cur, e1, e2, e3⟩
      · exact .inl h2
      · refine .inr ⟨g, cap, cur, e1, ?_, e3⟩
        rw [World.size_alloc] at e2
        omega
    · rw [← List.length_eq_zero_iff, hl, List.length_eq_zero_iff]
  have R2 : Below w.heap.size w w' := ((Below.refl _ w).alloc (Nat.le_refl _) _).trans (hb.mono (by simp))
  have HR := Lib.hid (And.intro R R2)
  clear hown hnil hb hs hl R R2 q1 q2 hp
  go_wp2
  go_ret
  exact ⟨⟨v, rfl, HR.out.1⟩, HR.out.2⟩
end
end Go.Proofs.YtgagcncmlonciaaGreatDoor
