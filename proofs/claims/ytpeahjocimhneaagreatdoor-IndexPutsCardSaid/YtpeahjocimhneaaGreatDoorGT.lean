/- All labels in order, each once: the plain law of an insertion. All labels in order, as the document has them: the walk of ref12.labels. Who has a label is told by the postings, where no label stands twice: the plain law. Entries of generation 2 as bytes, as the document has it: the walk of ref12.more. Entries of generation 3 as bytes, as the document has it: the walk of ref12.more. Put, as the document has it: the walk of ref12.Put. The law IndexPuts: the walk. -/
import Derived.Test.YtpeahjocimhneaaGreatDoorGQ
import Derived.Test.YtpeahjocimhneaaGreatDoorGG
import Derived.Test.YtpeahjocimhneaaGreatDoorGC
import Derived.Test.YtpeahjocimhneaaGreatDoorGP
import Derived.Test.YtpeahjocimhneaaGreatDoorGH
import Derived.Test.YtpeahjocimhneaaGreatDoorGS
import Derived.Test.YtpeahjocimhneaaGreatDoorGR
import Derived.Test.YtpeahjocimhneaaGreatDoorGI
import Derived.Test.YtpeahjocimhneaaGreatDoorGM
namespace Go.Proofs.YtpeahjocimhneaaGreatDoor
open Go.RowKit Go.Maps Go.WideMaps

def ltB (x y : Lb) : Bool := Op.bytesLess x.1 y.1 || (x.1 == y.1 && Op.bytesLess x.2 y.2)
theorem ltB_iff (x y : Lb) : ltB x y = true ↔ Op.bytesLess x.1 y.1 = true ∨ x.1 = y.1 ∧ Op.bytesLess x.2 y.2 = true := by
  unfold ltB
  simp
theorem ltB_irrefl (x : Lb) : ltB x x = false := by
  unfold ltB
  rw [bl_irrefl, bl_irrefl]
  simp
theorem ltB_trans (x y z : Lb) (h1 : ltB x y = true) (h2 : ltB y z = true) : ltB x z = true := by
  rw [ltB_iff] at *
  rcases h1 with h1 | ⟨e1, h1⟩
  · rcases h2 with h2 | ⟨e2, h2⟩
    · exact .inl (bl_trans _ _ _ h1 h2)
    · exact .inl (e2 ▸ h1)
  · rcases h2 with h2 | ⟨e2, h2⟩
    · exact .inl (e1 ▸ h2)
    · exact .inr ⟨e1.trans e2, bl_trans _ _ _ h1 h2⟩
theorem ltB_tri (x y : Lb) : ltB x y = true ∨ x = y ∨ ltB y x = true := by
  rw [ltB_iff, ltB_iff]
  rcases bl_tri x.1 y.1 with h | h | h
  · exact .inl (.inl h)
  · rcases bl_tri x.2 y.2 with k | k | k
    · exact .inl (.inr ⟨h, k⟩)
    · exact .inr (.inl (Prod.ext h k))
    · exact .inr (.inr (.inr ⟨h.symm, k⟩))
  · exact .inr (.inr (.inl h))
theorem ltB_asymm {x y : Lb} (h : ltB x y = true) : ltB y x = false := by
  cases e : ltB y x with
  | false => rfl
  | true =>
    have := ltB_trans _ _ _ h e
    rw [ltB_irrefl] at this
    cases this
theorem cb_less : ∀ a b : List UInt8, Op.bytesLess a b = decide (Lib.compareBytes a b < 0)
  | [], [] => rfl
  | [], _ :: _ => rfl
  | _ :: _, [] => rfl
  | a :: l, b :: m => by
    unfold Lib.compareBytes
    by_cases e : a = b
    · subst e
      have h : ¬ a < a := fun h => by have : a.toNat < a.toNat := h; omega
      rw [bl_same, cb_less l m, if_neg h, if_neg h]
    · rw [bl_other e]
      by_cases h : a < b
      · have h' : a.toNat < b.toNat := h
        rw [if_pos h]
        simpa using h'
      · have h' : ¬ a.toNat < b.toNat := h
        have h2 : b < a := show b.toNat < a.toNat from by
          have : a.toNat ≠ b.toNat := fun e' => e (UInt8.toNat_inj.1 e')
          omega
        rw [if_neg h, if_pos h2]
        simpa using h'
theorem ltB_cmp (x y : Lb) : ltB x y = decide (cmpLb x y < 0) := by
  unfold ltB cmpLb
  rw [cb_less, cb_less]
  by_cases h : Lib.compareBytes x.1 y.1 = 0
  · have e := cb_eq _ _ h
    rw [if_neg (by simp [h]), h, e]
    simp
  · have e : x.1 ≠ y.1 := fun e => h (by rw [e]; exact cb_refl _)
    have e2 : (x.1 == y.1) = false := by simpa using e
    rw [if_pos h, e2]
    simp
/-- Labels with one more, in order, each once. -/
def atB (S : List Lb) (s : Lb) : Nat := (S.takeWhile fun x => ltB x s).length
def insB (S : List Lb) (s : Lb) : List Lb := if S[atB S s]? = some s then S else S.take (atB S s) ++ ([s] ++ S.drop (atB S s))
theorem atB_is : ∀ (S : List Lb) (s : Lb) (k : Nat), k ≤ S.length → (∀ x ∈ S.take k, ltB x s = true) → (∀ x, S[k]? = some x → ltB x s = false) → atB S s = k
  | [], s, k, h, _, _ => by simp at h; subst h; rfl
  | x :: S, s, 0, _, _, h2 => by
    have := h2 x rfl
    unfold atB
    rw [List.takeWhile_cons, this]
    rfl
  | x :: S, s, k + 1, h, h1, h2 => by
    have hx := h1 x (by simp)
    have ih := atB_is S s k (by simpa using h) (fun y hy => h1 y (by simp [hy])) (fun y hy => h2 y (by simpa using hy))
    unfold atB at ih ⊢
    rw [List.takeWhile_cons, hx]
    simp [ih]
theorem insB_nil (s : Lb) : insB [] s = [s] := by simp [insB, atB]
theorem insB_cons (x : Lb) (S : List Lb) (s : Lb) : insB (x :: S) s = if ltB x s = true then x :: insB S s else if x = s then x :: S else s :: x :: S := by
  by_cases h : ltB x s = true
  · have ha : atB (x :: S) s = atB S s + 1 := by unfold atB; rw [List.takeWhile_cons, h]; simp
    rw [if_pos h]
    unfold insB
    rw [ha]
    simp only [List.getElem?_cons_succ, List.take_succ_cons, List.drop_succ_cons]
    split <;> simp
  · have hf : ltB x s = false := by simpa using h
    have ha : atB (x :: S) s = 0 := by unfold atB; rw [List.takeWhile_cons, hf]; simp
    rw [if_neg h]
    unfold insB
    rw [ha]
    by_cases e : x = s
    · simp [e]
    · simp [e]
theorem mem_insB : ∀ (S : List Lb) (s x : Lb), x ∈ insB S s ↔ x = s ∨ x ∈ S
  | [], s, x => by rw [insB_nil]; simp
  | y :: S, s, x => by
    rw [insB_cons]
    split
    · rw [List.mem_cons, mem_insB S s x, List.mem_cons]
      constructor
      · rintro (h | h | h)
        · exact .inr (.inl h)
        · exact .inl h
        · exact .inr (.inr h)
      · rintro (h | h | h)
        · exact .inr (.inl h)
        · exact .inl h
        · exact .inr (.inr h)
    · split
      · rename_i _ h
        subst h
        simp
      · simp
theorem insB_strict : ∀ (S : List Lb) (s : Lb), S.Pairwise (fun x y => ltB x y = true) → (insB S s).Pairwise fun x y => ltB x y = true
  | [], s, _ => by rw [insB_nil]; simp
  | y :: S, s, h => by
    obtain ⟨h1, h2⟩ := List.pairwise_cons.1 h
    rw [insB_cons]
    split
    · rename_i hys
      refine List.pairwise_cons.2 ⟨fun z hz => ?_, insB_strict S s h2⟩
      rcases (mem_insB S s z).1 hz with rfl | hz
      · exact hys
      · exact h1 z hz
    · rename_i hys
      split
      · exact h
      · rename_i hne
        have hsy : ltB s y = true := by
          rcases ltB_tri y s with e | e | e
          · exact (hys e).elim
          · exact (hne e).elim
          · exact e
        refine List.pairwise_cons.2 ⟨fun z hz => ?_, h⟩
        rcases List.mem_cons.1 hz with rfl | hz
        · exact hsy
        · exact ltB_trans s y z hsy (h1 z hz)
theorem insB_len (S : List Lb) (s : Lb) : (insB S s).length ≤ S.length + 1 := by
  induction S with
  | nil => rw [insB_nil]; simp
  | cons y S ih =>
    rw [insB_cons]
    split
    · simp only [List.length_cons]; omega
    · split <;> simp
theorem insB_ne (S : List Lb) (s : Lb) : insB S s ≠ [] := fun h => by
  have := (mem_insB S s s).2 (.inl rfl)
  rw [h] at this
  cases this
theorem strictB_eq : ∀ (l m : List Lb), l.Pairwise (fun x y => ltB x y = true) → m.Pairwise (fun x y => ltB x y = true) → (∀ x, x ∈ l ↔ x ∈ m) → l = m
  | [], m, _, _, h => (List.eq_nil_iff_forall_not_mem.2 fun x hx => by have := (h x).2 hx; cases this).symm
  | x :: l, [], _, _, h => by have := (h x).1 List.mem_cons_self; cases this
  | x :: l, y :: m, hl, hm, h => by
    obtain ⟨l1, l2⟩ := List.pairwise_cons.1 hl
    obtain ⟨m1, m2⟩ := List.pairwise_cons.1 hm
    have hxy : x = y := by
      rcases List.mem_cons.1 ((h x).1 List.mem_cons_self) with e | e
      · exact e
      · rcases List.mem_cons.1 ((h y).2 List.mem_cons_self) with e2 | e2
        · exact e2.symm
        · have a1 := m1 x e
          have a2 := ltB_asymm (l1 y e2)
          rw [a1] at a2
          cases a2
    subst hxy
    rw [strictB_eq l m l2 m2 fun z => ⟨fun hz => ?_, fun hz => ?_⟩]
    · rcases List.mem_cons.1 ((h z).1 (List.mem_cons_of_mem _ hz)) with rfl | e
      · have := l1 z hz
        rw [ltB_irrefl] at this
        cases this
      · exact e
    · rcases List.mem_cons.1 ((h z).2 (List.mem_cons_of_mem _ hz)) with rfl | e
      · have := m1 z hz
        rw [ltB_irrefl] at this
        cases this
      · exact e
theorem foldB_ins : ∀ (T S : List Lb), S.Pairwise (fun x y => ltB x y = true) → (T.foldl insB S).Pairwise (fun x y => ltB x y = true) ∧ (∀ x, x ∈ T.foldl insB S ↔ x ∈ T ∨ x ∈ S) ∧ (T.foldl insB S).length ≤ T.length + S.length
  | [], S, h => ⟨h, fun x => by simp, by simp⟩
  | t :: T, S, h => by
    obtain ⟨h1, h2, h3⟩ := foldB_ins T (insB S t) (insB_strict S t h)
    have h4 := insB_len S t
    refine ⟨h1, fun x => ?_, by rw [List.foldl_cons, List.length_cons]; omega⟩
    rw [List.foldl_cons, h2 x, mem_insB, List.mem_cons]
    constructor
    · rintro (h | h | h)
      · exact .inl (.inr h)
      · exact .inl (.inl h)
      · exact .inr h
    · rintro ((h | h) | h)
      · exact .inr (.inl h)
      · exact .inl h
      · exact .inr (.inr h)
/-- Labels laid in order, one after another. -/
def labF (T : List Lb) : List Lb := T.foldl insB []
def labsOf (E : List En) : List Lb := E.flatMap fun x => x.labels
theorem labF_snoc (T : List Lb) (y : Lb) : labF (T ++ [y]) = insB (labF T) y := by unfold labF; rw [List.foldl_append]; rfl
theorem labF_len (T : List Lb) : (labF T).length ≤ T.length := (foldB_ins T [] List.Pairwise.nil).2.2
theorem dist_nodup : ∀ L a : List Lb, a.Nodup → (L.foldl (fun a y => if y ∈ a then a else a ++ [y]) a).Nodup
  | [], _, h => h
  | y :: L, a, h => by
    rw [List.foldl_cons]
    refine dist_nodup L _ ?_
    split
    · exact h
    · rename_i hn
      refine List.nodup_append.2 ⟨h, by simp, fun x hx z hz e => ?_⟩
      rw [List.mem_singleton] at hz
      subst hz
      subst e
      exact hn hx
theorem keys_strict (E : List En) : (keysOf E).Pairwise fun x y => ltB x y = true := by
  have h1 : (keysOf E).Nodup := (List.mergeSort_perm _ _).nodup_iff.2 (dist_nodup _ [] List.nodup_nil)
  have h2 : (keysOf E).Pairwise fun x y => (!decide (cmpLb y x < 0)) = true := List.pairwise_mergeSort (fun a b c => by
    rw [← ltB_cmp, ← ltB_cmp, ← ltB_cmp]
    intro h1 h2
    cases h3 : ltB c a with
    | false => rfl
    | true =>
      rcases ltB_tri a b with h | h | h
      · have := ltB_trans c a b h3 h
        rw [this] at h2
        cases h2
      · subst h
        rw [h3] at h2
        cases h2
      · rw [h] at h1
        cases h1) (fun a b => by
    rw [← ltB_cmp, ← ltB_cmp]
    rcases ltB_tri a b with h | h | h
    · rw [ltB_asymm h]; rfl
    · subst h; rw [ltB_irrefl]; rfl
    · rw [ltB_asymm h]; simp) _
  refine (h1.and h2).imp fun {x y} h => ?_
  obtain ⟨h3, h4⟩ := h
  rw [← ltB_cmp] at h4
  rcases ltB_tri x y with e | e | e
  · exact e
  · exact absurd e h3
  · rw [e] at h4
    cases h4
theorem mem_pairs (E : List En) (y : Lb) : y ∈ (pairsI E).map (fun p => p.1) ↔ y ∈ labsOf E := by
  unfold pairsI labsOf
  rw [List.mem_map, List.mem_flatMap]
  constructor
  · rintro ⟨p, hp, rfl⟩
    obtain ⟨i, hi, hm⟩ := List.mem_flatMap.1 hp
    obtain ⟨z, hz, rfl⟩ := List.mem_map.1 hm
    rw [List.mem_range] at hi
    refine ⟨E[i], List.getElem_mem hi, ?_⟩
    simpa [List.getD_eq_getElem?_getD, hi] using hz
  · rintro ⟨x, hx, hy⟩
    obtain ⟨i, hi, rfl⟩ := List.mem_iff_getElem.1 hx
    exact ⟨(y, i), List.mem_flatMap.2 ⟨i, List.mem_range.2 hi, List.mem_map.2 ⟨y, by simpa [List.getD_eq_getElem?_getD, hi] using hy, rfl⟩⟩, rfl⟩
theorem labF_keys (E : List En) : labF (labsOf E) = keysOf E := by
  obtain ⟨h1, h2, _⟩ := foldB_ins (labsOf E) [] List.Pairwise.nil
  refine strictB_eq _ _ h1 (keys_strict E) fun x => ?_
  unfold keysOf sortLb labF
  rw [h2, List.mem_mergeSort, dist_mem, mem_pairs]
  simp
theorem labsOf_take (E : List En) {i : Nat} (h : i < E.length) : labsOf (E.take (i + 1)) = labsOf (E.take i) ++ E[i].labels := by
  unfold labsOf
  rw [List.take_succ_eq_append_getElem h, List.flatMap_append]
  simp
end Go.Proofs.YtpeahjocimhneaaGreatDoor
namespace Go.Proofs.YtpeahjocimhneaaGreatDoor
open Go.RowKit Go.Maps Go.WideMaps
attribute [local go_sem] bs_toList bs_size

/-- A slice of labels, that is none if there are none. -/
def LabsIs (w : World) (v : Value) (S : List Lb) : Prop := LabsAt w v S ∧ (S = [] → v = .slice none 0 0) ∧ ∀ a n c, v = .slice a n c → n ≤ c
theorem LabsIs.below {w w' : World} {v : Value} {S : List Lb} (h : LabsIs w v S) (hb : Below w.heap.size w w') : LabsIs w' v S := ⟨h.1.below hb, h.2⟩
theorem lbCells_append (A B : List Lb) : lbCells (A ++ B) = lbCells A ++ lbCells B := by unfold lbCells; rw [List.flatMap_append]
theorem lbCells_one' (L : List Lb) : ∀ u ∈ lbCells L, u.oneCell' = true := fun u hu => by
  unfold lbCells at hu
  obtain ⟨x, _, hx⟩ := List.mem_flatMap.1 hu
  simp only [List.mem_cons, List.not_mem_nil, or_false] at hx
  rcases hx with rfl | rfl <;> rfl
theorem lbCells_take (L : List Lb) (k : Nat) {j : Nat} {u : Value} (h : (lbCells (L.take k))[j]? = some u) : (lbCells L)[j]? = some u := by
  have hj := (List.getElem?_eq_some_iff.1 h).1
  conv => lhs; rw [← List.take_append_drop k L, lbCells_append]
  rw [List.getElem?_append_left hj]
  exact h
theorem lbCells_drop (L : List Lb) (k : Nat) (hk : k ≤ L.length) {j : Nat} {u : Value} (h : (lbCells (L.drop k))[j]? = some u) : (lbCells L)[k * 2 + j]? = some u := by
  conv => lhs; rw [← List.take_append_drop k L, lbCells_append]
  rw [List.getElem?_append_right (by rw [lbCells_len, List.length_take]; omega), lbCells_len, List.length_take, show k * 2 + j - min k L.length * 2 = j by omega]
  exact h
theorem labs_cells {w : World} {b o c : Nat} {L : List Lb} (h : LabsAt w (.slice (some ⟨b, o, none⟩) L.length c) L) : ∀ j u, (lbCells L)[j]? = some u → w.cell? ⟨b, o + j, none⟩ = some u := fun j u hu => by
  obtain ⟨_, _, e, _, hx⟩ := h
  obtain ⟨rfl, _, rfl⟩ := Value.slice.inj e
  have hj := (List.getElem?_eq_some_iff.1 hu).1
  rw [lbCells_len] at hj
  have hd : j / 2 < L.length := by omega
  obtain ⟨_, _, b', o', e', d0, d1⟩ := hx (j / 2) L[j / 2] (List.getElem?_eq_getElem hd)
  have e' := Option.some.inj e'
  simp only [Addr.mk.injEq] at e'
  obtain ⟨rfl, rfl, _⟩ := e'
  have ha := lbCells_at L (j / 2) _ (List.getElem?_eq_getElem hd)
  rcases Nat.mod_two_eq_zero_or_one j with h0 | h0
  · rw [show j / 2 * 2 = j by omega] at ha d0
    rw [hu] at ha
    rw [Option.some.inj ha.1]
    exact d0
  · rw [show j / 2 * 2 + 1 = j by omega] at ha
    rw [show o + j / 2 * 2 + 1 = o + j by omega] at d1
    rw [hu] at ha
    rw [Option.some.inj ha.2]
    exact d1
theorem labs_nil (w : World) : LabsAt w (.slice none 0 0) [] := ⟨none, 0, rfl, by simp, fun i x h => by simp at h⟩
theorem labsIs_row {w0 w : World} {v : Value} {R : List Lb} {n : Nat} (h : w.ownsRow w0.heap.size 37 2 v n (lbCells R)) (hn : R.length = n) (hR : R ≠ []) (hl : R.length ≤ 1048576) (hx : ∀ x ∈ R, x.1.length ≤ 1048576 ∧ x.2.length ≤ 1048576) : LabsIs w v R := by
  subst hn
  refine ⟨labsAt_row h hl hx, fun e => absurd e hR, fun a n c e => ?_⟩
  rcases h.2 with ⟨e0, e1⟩ | ⟨g, cap, cur, e2, _, _, e3, _⟩
  · exact absurd (List.length_eq_zero_iff.1 e1) hR
  · rw [e] at e2
    obtain ⟨_, rfl, rfl⟩ := Value.slice.inj e2
    omega
set_option maxRecDepth 100000 in
set_option maxHeartbeats 4000000 in
theorem Rlabels_any (E : List En) (v : Value) (w : World) (h : EntsAt w v E) (hT : (labsOf E).length ≤ 9000) :
    Calls Tryz.prog 79 #[v] w fun e w' => ∃ sv, e = .returned sv ∧ LabsIs w' sv (keysOf E) ∧ Below w.heap.size w w' := by
  have ⟨i0, hin, hz0, hz1, hz2⟩ := info_parts (show (Tryz.prog.info? 37).map (fun i => (i.zero, i.size, i.bytes)) = some (some (.agg #[.string ⟨#[]⟩, .string ⟨#[]⟩]), 2, 32) by kernel_rfl)
  have HF := Lib.hid (labF_keys E)
  have HP := Lib.hid (fun i (hi : i < E.length) k => show (labsOf (E.take i) ++ E[i].labels.take k).length ≤ 9000 from Nat.le_trans (by
    have h1 : E = E.take i ++ (E[i] :: E.drop (i + 1)) := by rw [← List.drop_eq_getElem_cons hi, List.take_append_drop]
    have h2 : labsOf E = labsOf (E.take i) ++ (E[i].labels ++ labsOf (E.drop (i + 1))) := by
      conv => lhs; rw [h1]
      unfold labsOf
      rw [List.flatMap_append, List.flatMap_cons]
    rw [h2, List.length_append, List.length_append, List.length_append, List.length_take]
    omega) hT)
  obtain ⟨a, c, rfl, hnil, hl, hlc, hx⟩ := id h
  have HX := Lib.hid hx
  have HTT := Lib.hid (fun i (hi : i < E.length) => labsOf_take E hi)
  have s0 : LabsIs w (.slice none 0 0) (labF (labsOf (E.take 0))) := ⟨labs_nil w, fun _ => rfl, fun a n c e => by obtain ⟨_, rfl, rfl⟩ := Value.slice.inj e; exact Nat.le_refl _⟩
  clear hx
  go_enter Tryz.func79, Tryz.ntmps79
  go_wp2_with fail
  go_loopw [3, 4] (fun vo vi wr => ∃ (i : Nat), i ≤ E.length ∧ vi = .int .i64 (i : Int) ∧ LabsIs wr vo (labF (labsOf (E.take i))) ∧ Below w.heap.size w wr) (fun _ vi _ => E.length - (intOf vi).toNat)
  case atStart => exact ⟨0, Nat.zero_le _, rfl, s0, Below.refl _ _⟩
  clear s0
  obtain ⟨i, hi, rfl, hS, hb⟩ := hrel
  obtain ⟨sa, sc, rfl, _⟩ := id hS.1
  rcases (show i < E.length ∨ i = E.length by omega) with hil | hiN
  · obtain ⟨_, b, o, rfl, la, lc, d0, hLab, _⟩ := HX.out i E[i] (List.getElem?_eq_getElem hil)
    have HTI := Lib.hid (HTT.out i hil)
    have HPP := Lib.hid (HP.out i hil)
    have HLab := Lib.hid hLab
    clear HX hLab HP HTT
    generalize E[i] = x at *
    have hS0 : LabsIs wr (.slice sa (labF (labsOf (E.take i))).length sc) (labF (labsOf (E.take i) ++ x.labels.take 0)) := by simpa using hS
    have d0' := (hb.cell (World.block_lt_of_cell? _ _ d0)).trans d0
    go_wp2_with fail
    go_loopw [3, 5] (fun vo vk wr => ∃ (k : Nat), k ≤ x.labels.length ∧ vk = .int .i64 (k : Int) ∧ LabsIs wr vo (labF (labsOf (E.take i) ++ x.labels.take k)) ∧ Below w.heap.size w wr) (fun _ vk _ => x.labels.length - (intOf vk).toNat)
    case atStart => exact ⟨0, Nat.zero_le _, rfl, hS0, hb⟩
    clear hS hS0 hb d0'
    obtain ⟨k, hk, rfl, hS, hb⟩ := hrel
    have d0' := (hb.cell (World.block_lt_of_cell? _ _ d0)).trans d0
    obtain ⟨sa, sc, rfl, _⟩ := id hS.1
    rcases (show k < x.labels.length ∨ k = x.labels.length by omega) with hkl | hkN
    · obtain ⟨_, _, e1, _, hLx⟩ := HLab.out
      obtain ⟨rfl, _, rfl⟩ := Value.slice.inj e1
      clear e1
      obtain ⟨ln, lv, yb, yo, rfl, dn, dv⟩ := hLx k x.labels[k] (List.getElem?_eq_getElem hkl)
      have HT2 := Lib.hid (show labF (labsOf (E.take i) ++ x.labels.take (k + 1)) = insB (labF (labsOf (E.take i) ++ x.labels.take k)) x.labels[k] by
        rw [List.take_succ_eq_append_getElem hkl, ← List.append_assoc, labF_snoc])
      have hTl := HPP.out k
      have hSl := labF_len (labsOf (E.take i) ++ x.labels.take k)
      have en := (hb.cell (World.block_lt_of_cell? _ _ dn)).trans dn
      have ev := (hb.cell (World.block_lt_of_cell? _ _ dv)).trans dv
      have d0w := d0'
      clear hLx dn dv HPP HLab d0'
      generalize x.labels[k] = y at *
      obtain ⟨y1, y2⟩ := y
      simp only at en ev ln lv
      obtain ⟨R, hR⟩ : ∃ R, labF (labsOf (E.take i) ++ x.labels.take (k + 1)) = R := ⟨_, rfl⟩
      have HRE := Lib.hid hR
      rw [hR] at HT2
      clear hR
      generalize labF (labsOf (E.take i) ++ x.labels.take k) = S at *
      have hSn : S.length ≤ 9000 := by omega
      generalize labsOf (E.take i) = T0 at *
      generalize x.labels = XL at *
      have HAT := Lib.hid (fun k h1 h2 h3 => atB_is S (y1, y2) k h1 h2 h3)
      have HI := Lib.hid (HT2.out.trans (show insB S (y1, y2) = if S[atB S (y1, y2)]? = some (y1, y2) then S else S.take (atB S (y1, y2)) ++ ([(y1, y2)] ++ S.drop (atB S (y1, y2))) from rfl))
      clear HT2 hTl hSl
      generalize atB S (y1, y2) = at0 at *
      have bY := one_alloc wr (.cells #[.string (bs y1), .string (bs y2)] 37)
      have kY := Blk.new wr 37 #[.string (bs y1), .string (bs y2)]
      have SY := hS.below bY
      have BY := hb.trans (bY.mono hb.size)
      clear bY hb hS
      go_wp2_with fail
      generalize wr.alloc (.cells #[.string (bs y1), .string (bs y2)] 37) = w0 at *
      generalize wr.heap.size = G at *
      clear en ev d0w
      have hSx : Hid (∀ j (hj : j < S.length), ∃ b o, sa = some ⟨b, o, none⟩ ∧ S[j].1.length ≤ 1048576 ∧ S[j].2.length ≤ 1048576 ∧ w0.cell? ⟨b, o + j * 2, none⟩ = some (.string (bs S[j].1)) ∧ w0.cell? ⟨b, o + j * 2 + 1, none⟩ = some (.string (bs S[j].2))) := Lib.hid (fun j hj => by
        obtain ⟨_, _, e, _, hx⟩ := SY.1
        obtain ⟨rfl, _, rfl⟩ := Value.slice.inj e
        obtain ⟨h1, h2, b', o', e', h3, h4⟩ := hx j S[j] (List.getElem?_eq_getElem hj)
        exact ⟨b', o', e', h1, h2, h3, h4⟩)
      have HSB : Hid (∀ x ∈ S, x.1.length ≤ 1048576 ∧ x.2.length ≤ 1048576) := Lib.hid (fun x hx => by
        obtain ⟨i, hi⟩ := List.getElem?_of_mem hx
        obtain ⟨_, _, _, _, h4⟩ := SY.1
        exact ⟨(h4 i x hi).1, (h4 i x hi).2.1⟩)
      have r0 : ∀ W : World, W.ownsRow w0.heap.size 37 2 (.slice none 0 0) 0 [] := fun W => World.ownsRow_nil _ _ _ _
      go_loopw [7] (fun vi wq => ∃ q : Nat, q ≤ S.length ∧ vi = .int .i64 (q : Int) ∧ Hid (∀ x ∈ S.take q, ltB x (y1, y2) = true) ∧ Below w0.heap.size w0 wq) (fun vi _ => S.length - (intOf vi).toNat)
      case atStart => exact ⟨0, Nat.zero_le _, rfl, Lib.hid (by simp), Below.refl _ _⟩
      obtain ⟨q, hq, rfl, HQ, hbq⟩ := hrel
      have kQ := Blk.below kY hbq kY.lt
      have m0 : _ = some _ := (Blk.cell kQ 0).trans (show _ = some (Value.string (bs y1)) from rfl)
      have m1 : _ = some _ := (Blk.cell kQ 1).trans (show _ = some (Value.string (bs y2)) from rfl)
      have M0 := grow_cell m0
      have M1 := grow_cell m1
      rcases (show q < S.length ∨ q = S.length by omega) with hql | hqN
      · obtain ⟨sb, so, rfl, ls1, ls2, c0, c1⟩ := hSx.out q hql
        have hbw := World.block_lt_of_cell? _ _ c0
        simp only at hbw
        have HC := Lib.hid (labs_cells SY.1)
        have x0 := (hbq.cell (World.block_lt_of_cell? _ _ c0)).trans c0
        have x1 := (hbq.cell (World.block_lt_of_cell? _ _ c1)).trans c1
        have X0 := grow_cell x0
        have X1 := grow_cell x1
        have f0 : decide ((q : Int) < (S.length : Int)) = true := by simp; omega
        have f0' : decide (q < S.length) = true := by simpa using hql
        have HT := Lib.hid (show S.take (q + 1) = S.take q ++ [S[q]] from List.take_succ_eq_append_getElem hql)
        have HG := Lib.hid (show S[q]? = some S[q] from List.getElem?_eq_getElem hql)
        generalize S[q] = z at *
        obtain ⟨z1, z2⟩ := z
        simp only at c0 c1 x0 x1 X0 X1 ls1 ls2
        have q1 := Lib.hid (fun W => Ahead_any z1 y1 W (by omega))
        have q2 := Lib.hid (fun W => Ahead_any z2 y2 W (by omega))
        have HLT := Lib.hid (show ltB (z1, z2) (y1, y2) = (Op.bytesLess z1 y1 || (z1 == y1 && Op.bytesLess z2 y2)) from rfl)
        generalize Op.bytesLess z1 y1 = l1 at *
        generalize Op.bytesLess z2 y2 = l2 at *
        cases l1 with
        | true =>
          go_wp2_with fail
          refine wp_region_at (R := GrowR) (by kernel_rfl) (by kernel_rfl) ?_
          (try dsimp only)
          (refine lex_one (by kernel_rfl) (by kernel_rfl) (by kernel_rfl) (fun K hK => ?_); go_big_quiet_step (fail); refine wpQuiet_nil (hK _ ?_); clear hK K); (refine lex_one (by kernel_rfl) (by kernel_rfl) (by kernel_rfl) (fun K hK => ?_); go_big_quiet_step (fail); refine wpQuiet_nil (hK _ ?_); clear hK K)
          (refine lex_val (v := .int .i64 (S.length : Int)) (by kernel_rfl) (fun _ _ h => by cases h) (by kernel_rfl) (by kernel_rfl) (fun _ _ => by go_simp) (lex_put (type := 0) (pos := "") (fun K hK => ?_)); go_big_quiet_step (fail); refine wpQuiet_nil (hK _ ?_); clear hK K)
          (refine lex_one (by kernel_rfl) (by kernel_rfl) (by kernel_rfl) (fun K hK => ?_); go_big_quiet_step (fail); refine wpQuiet_nil (hK _ ?_); clear hK K); (refine lex_one (by kernel_rfl) (by kernel_rfl) (by kernel_rfl) (fun K hK => ?_); go_big_quiet_step (fail); refine wpQuiet_nil (hK _ ?_); clear hK K); (refine lex_one (by kernel_rfl) (by kernel_rfl) (by kernel_rfl) (fun K hK => ?_); go_big_quiet_step (fail); refine wpQuiet_nil (hK _ ?_); clear hK K); (refine lex_one (by kernel_rfl) (by kernel_rfl) (by kernel_rfl) (fun K hK => ?_); go_big_quiet_step (fail); refine wpQuiet_nil (hK _ ?_); clear hK K); (refine lex_one (by kernel_rfl) (by kernel_rfl) (by kernel_rfl) (fun K hK => ?_); go_big_quiet_step (fail); refine wpQuiet_nil (hK _ ?_); clear hK K); (refine lex_one (by kernel_rfl) (by kernel_rfl) (by kernel_rfl) (fun K hK => ?_); go_big_quiet_step (fail); refine wpQuiet_nil (hK _ ?_); clear hK K); (refine lex_one (by kernel_rfl) (by kernel_rfl) (by kernel_rfl) (fun K hK => ?_); go_big_quiet_step (fail); refine wpQuiet_nil (hK _ ?_); clear hK K); (refine lex_one (by kernel_rfl) (by kernel_rfl) (by kernel_rfl) (fun K hK => ?_); go_big_quiet_step (fail); refine wpQuiet_nil (hK _ ?_); clear hK K); (refine lex_one (by kernel_rfl) (by kernel_rfl) (by kernel_rfl) (fun K hK => ?_); go_big_quiet_step (fail); refine wpQuiet_nil (hK _ ?_); clear hK K)
          (refine lex_call (f := 37) (args := #[.string (bs z1), .string (bs y1)]) (v := .bool true) (by kernel_rfl) (fun _ _ h => by cases h) (by kernel_rfl) (by kernel_rfl) (fun _ => by go_simp) (fun W hW => q1.out W) (lex_put (type := 0) (pos := "") (fun K hK => ?_)); go_big_quiet_step (fail); refine wpQuiet_nil (hK _ ?_); clear hK K)
          (refine lex_one (by kernel_rfl) (by kernel_rfl) (by kernel_rfl) (fun K hK => ?_); go_big_quiet_step (fail); refine wpQuiet_nil (hK _ ?_); clear hK K)
          (refine lex_none (by kernel_rfl) (by kernel_rfl) (by kernel_rfl) (fun K hK => ?_); go_big_quiet_step (fail); refine wpQuiet_nil (hK _ ?_); clear hK K); (refine lex_none (by kernel_rfl) (by kernel_rfl) (by kernel_rfl) (fun K hK => ?_); go_big_quiet_step (fail); refine wpQuiet_nil (hK _ ?_); clear hK K); (refine lex_none (by kernel_rfl) (by kernel_rfl) (by kernel_rfl) (fun K hK => ?_); go_big_quiet_step (fail); refine wpQuiet_nil (hK _ ?_); clear hK K); (refine lex_none (by kernel_rfl) (by kernel_rfl) (by kernel_rfl) (fun K hK => ?_); go_big_quiet_step (fail); refine wpQuiet_nil (hK _ ?_); clear hK K); (refine lex_none (by kernel_rfl) (by kernel_rfl) (by kernel_rfl) (fun K hK => ?_); go_big_quiet_step (fail); refine wpQuiet_nil (hK _ ?_); clear hK K); (refine lex_none (by kernel_rfl) (by kernel_rfl) (by kernel_rfl) (fun K hK => ?_); go_big_quiet_step (fail); refine wpQuiet_nil (hK _ ?_); clear hK K); (refine lex_none (by kernel_rfl) (by kernel_rfl) (by kernel_rfl) (fun K hK => ?_); go_big_quiet_step (fail); refine wpQuiet_nil (hK _ ?_); clear hK K); (refine lex_none (by kernel_rfl) (by kernel_rfl) (by kernel_rfl) (fun K hK => ?_); go_big_quiet_step (fail); refine wpQuiet_nil (hK _ ?_); clear hK K); (refine lex_none (by kernel_rfl) (by kernel_rfl) (by kernel_rfl) (fun K hK => ?_); go_big_quiet_step (fail); refine wpQuiet_nil (hK _ ?_); clear hK K); (refine lex_none (by kernel_rfl) (by kernel_rfl) (by kernel_rfl) (fun K hK => ?_); go_big_quiet_step (fail); refine wpQuiet_nil (hK _ ?_); clear hK K); (refine lex_none (by kernel_rfl) (by kernel_rfl) (by kernel_rfl) (fun K hK => ?_); go_big_quiet_step (fail); refine wpQuiet_nil (hK _ ?_); clear hK K); (refine lex_none (by kernel_rfl) (by kernel_rfl) (by kernel_rfl) (fun K hK => ?_); go_big_quiet_step (fail); refine wpQuiet_nil (hK _ ?_); clear hK K); (refine lex_none (by kernel_rfl) (by kernel_rfl) (by kernel_rfl) (fun K hK => ?_); go_big_quiet_step (fail); refine wpQuiet_nil (hK _ ?_); clear hK K); (refine lex_none (by kernel_rfl) (by kernel_rfl) (by kernel_rfl) (fun K hK => ?_); go_big_quiet_step (fail); refine wpQuiet_nil (hK _ ?_); clear hK K); (refine lex_none (by kernel_rfl) (by kernel_rfl) (by kernel_rfl) (fun K hK => ?_); go_big_quiet_step (fail); refine wpQuiet_nil (hK _ ?_); clear hK K); (refine lex_none (by kernel_rfl) (by kernel_rfl) (by kernel_rfl) (fun K hK => ?_); go_big_quiet_step (fail); refine wpQuiet_nil (hK _ ?_); clear hK K); (refine lex_none (by kernel_rfl) (by kernel_rfl) (by kernel_rfl) (fun K hK => ?_); go_big_quiet_step (fail); refine wpQuiet_nil (hK _ ?_); clear hK K); (refine lex_none (by kernel_rfl) (by kernel_rfl) (by kernel_rfl) (fun K hK => ?_); go_big_quiet_step (fail); refine wpQuiet_nil (hK _ ?_); clear hK K)
          (refine lex_one (by kernel_rfl) (by kernel_rfl) (by kernel_rfl) (fun K hK => ?_); go_big_quiet_step (fail); refine wpQuiet_nil (hK _ ?_); clear hK K); (refine lex_one (by kernel_rfl) (by kernel_rfl) (by kernel_rfl) (fun K hK => ?_); go_big_quiet_step (fail); refine wpQuiet_nil (hK _ ?_); clear hK K)
          refine lex_nil (by kernel_rfl) (by kernel_rfl) (by kernel_rfl) ?_
          intro W9 hb9
          simp only [hideAll]
          have hb9' : Below w0.heap.size w0 W9 := hbq.trans (Below.mono hb9 hbq.size)
          clear q1 q2
          have hlt := Lib.hid (show ltB (z1, z2) (y1, y2) = true by rw [HLT.out]; rfl)
          go_wp2_with fail
          go_roundw
          case rel =>
            refine ⟨q + 1, by omega, by go_num, Lib.hid fun y hy => ?_, hb9'⟩
            rw [HT.out] at hy
            rcases List.mem_append.1 hy with hy | hy
            · exact HQ.out y hy
            · obtain rfl := List.mem_singleton.1 hy
              exact hlt.out
          case measure => simp [intOf]; omega
        | false =>
        by_cases hn : z1 = y1
        · have g1 : (z1 == y1) = true := by simpa using hn
          cases l2 with
          | true =>
            go_wp2_with fail
            refine wp_region_at (R := GrowR) (by kernel_rfl) (by kernel_rfl) ?_
            (try dsimp only)
            (refine lex_one (by kernel_rfl) (by kernel_rfl) (by kernel_rfl) (fun K hK => ?_); go_big_quiet_step (fail); refine wpQuiet_nil (hK _ ?_); clear hK K); (refine lex_one (by kernel_rfl) (by kernel_rfl) (by kernel_rfl) (fun K hK => ?_); go_big_quiet_step (fail); refine wpQuiet_nil (hK _ ?_); clear hK K)
            (refine lex_val (v := .int .i64 (S.length : Int)) (by kernel_rfl) (fun _ _ h => by cases h) (by kernel_rfl) (by kernel_rfl) (fun _ _ => by go_simp) (lex_put (type := 0) (pos := "") (fun K hK => ?_)); go_big_quiet_step (fail); refine wpQuiet_nil (hK _ ?_); clear hK K)
            (refine lex_one (by kernel_rfl) (by kernel_rfl) (by kernel_rfl) (fun K hK => ?_); go_big_quiet_step (fail); refine wpQuiet_nil (hK _ ?_); clear hK K); (refine lex_one (by kernel_rfl) (by kernel_rfl) (by kernel_rfl) (fun K hK => ?_); go_big_quiet_step (fail); refine wpQuiet_nil (hK _ ?_); clear hK K); (refine lex_one (by kernel_rfl) (by kernel_rfl) (by kernel_rfl) (fun K hK => ?_); go_big_quiet_step (fail); refine wpQuiet_nil (hK _ ?_); clear hK K); (refine lex_one (by kernel_rfl) (by kernel_rfl) (by kernel_rfl) (fun K hK => ?_); go_big_quiet_step (fail); refine wpQuiet_nil (hK _ ?_); clear hK K); (refine lex_one (by kernel_rfl) (by kernel_rfl) (by kernel_rfl) (fun K hK => ?_); go_big_quiet_step (fail); refine wpQuiet_nil (hK _ ?_); clear hK K); (refine lex_one (by kernel_rfl) (by kernel_rfl) (by kernel_rfl) (fun K hK => ?_); go_big_quiet_step (fail); refine wpQuiet_nil (hK _ ?_); clear hK K); (refine lex_one (by kernel_rfl) (by kernel_rfl) (by kernel_rfl) (fun K hK => ?_); go_big_quiet_step (fail); refine wpQuiet_nil (hK _ ?_); clear hK K); (refine lex_one (by kernel_rfl) (by kernel_rfl) (by kernel_rfl) (fun K hK => ?_); go_big_quiet_step (fail); refine wpQuiet_nil (hK _ ?_); clear hK K); (refine lex_one (by kernel_rfl) (by kernel_rfl) (by kernel_rfl) (fun K hK => ?_); go_big_quiet_step (fail); refine wpQuiet_nil (hK _ ?_); clear hK K)
            (refine lex_call (f := 37) (args := #[.string (bs z1), .string (bs y1)]) (v := .bool false) (by kernel_rfl) (fun _ _ h => by cases h) (by kernel_rfl) (by kernel_rfl) (fun _ => by go_simp) (fun W hW => q1.out W) (lex_put (type := 0) (pos := "") (fun K hK => ?_)); go_big_quiet_step (fail); refine wpQuiet_nil (hK _ ?_); clear hK K)
            (refine lex_one (by kernel_rfl) (by kernel_rfl) (by kernel_rfl) (fun K hK => ?_); go_big_quiet_step (fail); refine wpQuiet_nil (hK _ ?_); clear hK K); (refine lex_one (by kernel_rfl) (by kernel_rfl) (by kernel_rfl) (fun K hK => ?_); go_big_quiet_step (fail); refine wpQuiet_nil (hK _ ?_); clear hK K); (refine lex_one (by kernel_rfl) (by kernel_rfl) (by kernel_rfl) (fun K hK => ?_); go_big_quiet_step (fail); refine wpQuiet_nil (hK _ ?_); clear hK K); (refine lex_one (by kernel_rfl) (by kernel_rfl) (by kernel_rfl) (fun K hK => ?_); go_big_quiet_step (fail); refine wpQuiet_nil (hK _ ?_); clear hK K); (refine lex_one (by kernel_rfl) (by kernel_rfl) (by kernel_rfl) (fun K hK => ?_); go_big_quiet_step (fail); refine wpQuiet_nil (hK _ ?_); clear hK K); (refine lex_one (by kernel_rfl) (by kernel_rfl) (by kernel_rfl) (fun K hK => ?_); go_big_quiet_step (fail); refine wpQuiet_nil (hK _ ?_); clear hK K); (refine lex_one (by kernel_rfl) (by kernel_rfl) (by kernel_rfl) (fun K hK => ?_); go_big_quiet_step (fail); refine wpQuiet_nil (hK _ ?_); clear hK K); (refine lex_one (by kernel_rfl) (by kernel_rfl) (by kernel_rfl) (fun K hK => ?_); go_big_quiet_step (fail); refine wpQuiet_nil (hK _ ?_); clear hK K); (refine lex_one (by kernel_rfl) (by kernel_rfl) (by kernel_rfl) (fun K hK => ?_); go_big_quiet_step (fail); refine wpQuiet_nil (hK _ ?_); clear hK K); (refine lex_one (by kernel_rfl) (by kernel_rfl) (by kernel_rfl) (fun K hK => ?_); go_big_quiet_step (fail); refine wpQuiet_nil (hK _ ?_); clear hK K)
            (refine lex_one (by kernel_rfl) (by kernel_rfl) (by kernel_rfl) (fun K hK => ?_); go_big_quiet_step (fail); refine wpQuiet_nil (hK _ ?_); clear hK K); (refine lex_one (by kernel_rfl) (by kernel_rfl) (by kernel_rfl) (fun K hK => ?_); go_big_quiet_step (fail); refine wpQuiet_nil (hK _ ?_); clear hK K); (refine lex_one (by kernel_rfl) (by kernel_rfl) (by kernel_rfl) (fun K hK => ?_); go_big_quiet_step (fail); refine wpQuiet_nil (hK _ ?_); clear hK K); (refine lex_one (by kernel_rfl) (by kernel_rfl) (by kernel_rfl) (fun K hK => ?_); go_big_quiet_step (fail); refine wpQuiet_nil (hK _ ?_); clear hK K); (refine lex_one (by kernel_rfl) (by kernel_rfl) (by kernel_rfl) (fun K hK => ?_); go_big_quiet_step (fail); refine wpQuiet_nil (hK _ ?_); clear hK K); (refine lex_one (by kernel_rfl) (by kernel_rfl) (by kernel_rfl) (fun K hK => ?_); go_big_quiet_step (fail); refine wpQuiet_nil (hK _ ?_); clear hK K); (refine lex_one (by kernel_rfl) (by kernel_rfl) (by kernel_rfl) (fun K hK => ?_); go_big_quiet_step (fail); refine wpQuiet_nil (hK _ ?_); clear hK K)
            (refine lex_call (f := 37) (args := #[.string (bs z2), .string (bs y2)]) (v := .bool true) (by kernel_rfl) (fun _ _ h => by cases h) (by kernel_rfl) (by kernel_rfl) (fun _ => by go_simp) (fun W hW => q2.out W) (lex_put (type := 0) (pos := "") (fun K hK => ?_)); go_big_quiet_step (fail); refine wpQuiet_nil (hK _ ?_); clear hK K)
            (refine lex_one (by kernel_rfl) (by kernel_rfl) (by kernel_rfl) (fun K hK => ?_); go_big_quiet_step (fail); refine wpQuiet_nil (hK _ ?_); clear hK K); (refine lex_one (by kernel_rfl) (by kernel_rfl) (by kernel_rfl) (fun K hK => ?_); go_big_quiet_step (fail); refine wpQuiet_nil (hK _ ?_); clear hK K); (refine lex_one (by kernel_rfl) (by kernel_rfl) (by kernel_rfl) (fun K hK => ?_); go_big_quiet_step (fail); refine wpQuiet_nil (hK _ ?_); clear hK K)
            refine lex_nil (by kernel_rfl) (by kernel_rfl) (by kernel_rfl) ?_
            intro W9 hb9
            simp only [hideAll]
            have hb9' : Below w0.heap.size w0 W9 := hbq.trans (Below.mono hb9 hbq.size)
            clear q1 q2
            have hlt := Lib.hid (show ltB (z1, z2) (y1, y2) = true by rw [HLT.out]; rw [g1]; rfl)
            go_wp2_with fail
            go_roundw
            case rel =>
              refine ⟨q + 1, by omega, by go_num, Lib.hid fun y hy => ?_, hb9'⟩
              rw [HT.out] at hy
              rcases List.mem_append.1 hy with hy | hy
              · exact HQ.out y hy
              · obtain rfl := List.mem_singleton.1 hy
                exact hlt.out
            case measure => simp [intOf]; omega
          | false =>
            go_wp2_with fail
            refine wp_region_at (R := GrowR) (by kernel_rfl) (by kernel_rfl) ?_
            (try dsimp only)
            (refine lex_one (by kernel_rfl) (by kernel_rfl) (by kernel_rfl) (fun K hK => ?_); go_big_quiet_step (fail); refine wpQuiet_nil (hK _ ?_); clear hK K); (refine lex_one (by kernel_rfl) (by kernel_rfl) (by kernel_rfl) (fun K hK => ?_); go_big_quiet_step (fail); refine wpQuiet_nil (hK _ ?_); clear hK K)
            (refine lex_val (v := .int .i64 (S.length : Int)) (by kernel_rfl) (fun _ _ h => by cases h) (by kernel_rfl) (by kernel_rfl) (fun _ _ => by go_simp) (lex_put (type := 0) (pos := "") (fun K hK => ?_)); go_big_quiet_step (fail); refine wpQuiet_nil (hK _ ?_); clear hK K)
            (refine lex_one (by kernel_rfl) (by kernel_rfl) (by kernel_rfl) (fun K hK => ?_); go_big_quiet_step (fail); refine wpQuiet_nil (hK _ ?_); clear hK K); (refine lex_one (by kernel_rfl) (by kernel_rfl) (by kernel_rfl) (fun K hK => ?_); go_big_quiet_step (fail); refine wpQuiet_nil (hK _ ?_); clear hK K); (refine lex_one (by kernel_rfl) (by kernel_rfl) (by kernel_rfl) (fun K hK => ?_); go_big_quiet_step (fail); refine wpQuiet_nil (hK _ ?_); clear hK K); (refine lex_one (by kernel_rfl) (by kernel_rfl) (by kernel_rfl) (fun K hK => ?_); go_big_quiet_step (fail); refine wpQuiet_nil (hK _ ?_); clear hK K); (refine lex_one (by kernel_rfl) (by kernel_rfl) (by kernel_rfl) (fun K hK => ?_); go_big_quiet_step (fail); refine wpQuiet_nil (hK _ ?_); clear hK K); (refine lex_one (by kernel_rfl) (by kernel_rfl) (by kernel_rfl) (fun K hK => ?_); go_big_quiet_step (fail); refine wpQuiet_nil (hK _ ?_); clear hK K); (refine lex_one (by kernel_rfl) (by kernel_rfl) (by kernel_rfl) (fun K hK => ?_); go_big_quiet_step (fail); refine wpQuiet_nil (hK _ ?_); clear hK K); (refine lex_one (by kernel_rfl) (by kernel_rfl) (by kernel_rfl) (fun K hK => ?_); go_big_quiet_step (fail); refine wpQuiet_nil (hK _ ?_); clear hK K); (refine lex_one (by kernel_rfl) (by kernel_rfl) (by kernel_rfl) (fun K hK => ?_); go_big_quiet_step (fail); refine wpQuiet_nil (hK _ ?_); clear hK K)
            (refine lex_call (f := 37) (args := #[.string (bs z1), .string (bs y1)]) (v := .bool false) (by kernel_rfl) (fun _ _ h => by cases h) (by kernel_rfl) (by kernel_rfl) (fun _ => by go_simp) (fun W hW => q1.out W) (lex_put (type := 0) (pos := "") (fun K hK => ?_)); go_big_quiet_step (fail); refine wpQuiet_nil (hK _ ?_); clear hK K)
            (refine lex_one (by kernel_rfl) (by kernel_rfl) (by kernel_rfl) (fun K hK => ?_); go_big_quiet_step (fail); refine wpQuiet_nil (hK _ ?_); clear hK K); (refine lex_one (by kernel_rfl) (by kernel_rfl) (by kernel_rfl) (fun K hK => ?_); go_big_quiet_step (fail); refine wpQuiet_nil (hK _ ?_); clear hK K); (refine lex_one (by kernel_rfl) (by kernel_rfl) (by kernel_rfl) (fun K hK => ?_); go_big_quiet_step (fail); refine wpQuiet_nil (hK _ ?_); clear hK K); (refine lex_one (by kernel_rfl) (by kernel_rfl) (by kernel_rfl) (fun K hK => ?_); go_big_quiet_step (fail); refine wpQuiet_nil (hK _ ?_); clear hK K); (refine lex_one (by kernel_rfl) (by kernel_rfl) (by kernel_rfl) (fun K hK => ?_); go_big_quiet_step (fail); refine wpQuiet_nil (hK _ ?_); clear hK K); (refine lex_one (by kernel_rfl) (by kernel_rfl) (by kernel_rfl) (fun K hK => ?_); go_big_quiet_step (fail); refine wpQuiet_nil (hK _ ?_); clear hK K); (refine lex_one (by kernel_rfl) (by kernel_rfl) (by kernel_rfl) (fun K hK => ?_); go_big_quiet_step (fail); refine wpQuiet_nil (hK _ ?_); clear hK K); (refine lex_one (by kernel_rfl) (by kernel_rfl) (by kernel_rfl) (fun K hK => ?_); go_big_quiet_step (fail); refine wpQuiet_nil (hK _ ?_); clear hK K); (refine lex_one (by kernel_rfl) (by kernel_rfl) (by kernel_rfl) (fun K hK => ?_); go_big_quiet_step (fail); refine wpQuiet_nil (hK _ ?_); clear hK K); (refine lex_one (by kernel_rfl) (by kernel_rfl) (by kernel_rfl) (fun K hK => ?_); go_big_quiet_step (fail); refine wpQuiet_nil (hK _ ?_); clear hK K)
            (refine lex_one (by kernel_rfl) (by kernel_rfl) (by kernel_rfl) (fun K hK => ?_); go_big_quiet_step (fail); refine wpQuiet_nil (hK _ ?_); clear hK K); (refine lex_one (by kernel_rfl) (by kernel_rfl) (by kernel_rfl) (fun K hK => ?_); go_big_quiet_step (fail); refine wpQuiet_nil (hK _ ?_); clear hK K); (refine lex_one (by kernel_rfl) (by kernel_rfl) (by kernel_rfl) (fun K hK => ?_); go_big_quiet_step (fail); refine wpQuiet_nil (hK _ ?_); clear hK K); (refine lex_one (by kernel_rfl) (by kernel_rfl) (by kernel_rfl) (fun K hK => ?_); go_big_quiet_step (fail); refine wpQuiet_nil (hK _ ?_); clear hK K); (refine lex_one (by kernel_rfl) (by kernel_rfl) (by kernel_rfl) (fun K hK => ?_); go_big_quiet_step (fail); refine wpQuiet_nil (hK _ ?_); clear hK K); (refine lex_one (by kernel_rfl) (by kernel_rfl) (by kernel_rfl) (fun K hK => ?_); go_big_quiet_step (fail); refine wpQuiet_nil (hK _ ?_); clear hK K); (refine lex_one (by kernel_rfl) (by kernel_rfl) (by kernel_rfl) (fun K hK => ?_); go_big_quiet_step (fail); refine wpQuiet_nil (hK _ ?_); clear hK K)
            (refine lex_call (f := 37) (args := #[.string (bs z2), .string (bs y2)]) (v := .bool false) (by kernel_rfl) (fun _ _ h => by cases h) (by kernel_rfl) (by kernel_rfl) (fun _ => by go_simp) (fun W hW => q2.out W) (lex_put (type := 0) (pos := "") (fun K hK => ?_)); go_big_quiet_step (fail); refine wpQuiet_nil (hK _ ?_); clear hK K)
            (refine lex_one (by kernel_rfl) (by kernel_rfl) (by kernel_rfl) (fun K hK => ?_); go_big_quiet_step (fail); refine wpQuiet_nil (hK _ ?_); clear hK K); (refine lex_one (by kernel_rfl) (by kernel_rfl) (by kernel_rfl) (fun K hK => ?_); go_big_quiet_step (fail); refine wpQuiet_nil (hK _ ?_); clear hK K); (refine lex_one (by kernel_rfl) (by kernel_rfl) (by kernel_rfl) (fun K hK => ?_); go_big_quiet_step (fail); refine wpQuiet_nil (hK _ ?_); clear hK K)
            refine lex_nil (by kernel_rfl) (by kernel_rfl) (by kernel_rfl) ?_
            intro W9 hb9
            simp only [hideAll]
            have hb9' : Below w0.heap.size w0 W9 := hbq.trans (Below.mono hb9 hbq.size)
            clear q1 q2
            have hlt := Lib.hid (show ltB (z1, z2) (y1, y2) = false by rw [HLT.out]; rw [g1]; rfl)
            have hat := HAT.out q (by omega) HQ.out (fun y hy => by rw [HG.out] at hy; obtain rfl := Option.some.inj hy; exact hlt.out)
            rw [hat, HG.out] at HI
            have kQ9 := Blk.below kQ hb9 kQ.lt
            have n0 : _ = some _ := (Blk.cell kQ9 0).trans (show _ = some (Value.string (bs y1)) from rfl)
            have n1 : _ = some _ := (Blk.cell kQ9 1).trans (show _ = some (Value.string (bs y2)) from rfl)
            have u0 := (hb9'.cell (World.block_lt_of_cell? _ _ c0)).trans c0
            have u1 := (hb9'.cell (World.block_lt_of_cell? _ _ c1)).trans c1
            have hq0 := fun W => eqLb_run (z1, z2) (y1, y2) W
            unfold encLb at hq0
            simp only at hq0
            have hcap := SY.2.2 _ _ _ rfl
            clear HAT hat HT HG HQ HLT hlt M0 M1 m0 m1 X0 X1 x0 x1 c0 c1 kQ hSx
            by_cases hn2 : z2 = y2
            · have g2 : (z2 == y2) = true := by simpa using hn2
              have HR := Lib.hid (show R = S by rw [HI.out, if_pos (by rw [hn, hn2])])
              have S9 : ∀ n, LabsIs (W9.drewN n) (.slice (some ⟨sb, so, none⟩) S.length sc) R := fun n => by rw [HR.out]; exact SY.below (below_drewN hb9' n)
              have hq := fun W => (hq0 W).trans (show _ = Result.ok (Value.bool true) W by rw [hn, hn2]; simp)
              clear HI hn hn2 HR hq0
              go_wp2_with fail
              go_quiet (fail)
              go_wp2_with fail
              go_roundw
              case rel => exact ⟨k + 1, by omega, by go_num, by rw [HRE.out]; exact S9 _, below_drewN (BY.trans (hb9'.mono BY.size)) _⟩
              case measure => simp [intOf]; omega
            · have g2 : (z2 == y2) = false := by simpa using hn2
              have HNE := Lib.hid (show (z1, z2) ≠ (y1, y2) from fun e => hn2 (Prod.mk.inj e).2)
              have hq := fun W => (hq0 W).trans (show _ = Result.ok (Value.bool false) W by rw [decide_eq_false HNE.out])
              clear hq0
              clear hn2
              go_wp2_with fail
              go_quiet (fail)
              have HR := Lib.hid (show R = S.take q ++ ([(y1, y2)] ++ S.drop q) by rw [HI.out, if_neg (fun e => HNE.out (Option.some.inj e))])
              clear HI HNE hn u0 u1 n0 n1 hq g1 kQ9
              have hbD : Hid (∀ n, Below w0.heap.size w0 (W9.drewN n)) := Lib.hid (fun n => below_drewN hb9' n)
              have HCW := Lib.hid (fun n j u hu => ((hbD.out n).cell (World.block_lt_of_cell? _ _ (HC.out j u hu))).trans (HC.out j u hu))
              have hck : ¬ (sc = q) := by omega
              have n1 : (lbCells (S.take q)).length = q * 2 := by rw [lbCells_len, List.length_take]; omega
              have n3 : (lbCells (S.drop q)).length = (S.length - q) * 2 := by rw [lbCells_len, List.length_drop]
              have z1 := lbCells_one' (S.take q)
              have z3 := lbCells_one' (S.drop q)
              go_wp2_with (at_builtin; go_loud (first | (refine wpList_append_own_at _ rfl _ _ 57 rfl w0.heap.size 37 i0 (.agg #[.string ⟨#[]⟩, .string ⟨#[]⟩]) 2 32 Tryz.underlying57 hin hz0 hz1 hz2 rfl (by decide) _ _ _ rfl hown2 ⟨sb, so + q * 2, none⟩ (S.length - q) (sc - q) (lbCells (S.drop q)) rfl n3 (fun j u hu => by rw [add_o]; have := HC.out _ _ (lbCells_drop S q (by omega) hu); rw [← Nat.add_assoc] at this; exact (hb6.cell hbw).trans this) z3 (by unfold maxLen; omega) (by omega) (by have := hb6.size; omega) ?_; intro v3 w7 hown3 hgrow3 hnil3 hloc3; obtain ⟨va3, vc3, rfl⟩ := row_form hown3; have hb7 : Below w0.heap.size w0 w7 := Kept.below ((Kept.of_below (S := fun _ => False) hb6).grow_row hgrow3 (fun k e => (hown2.lt k e).1)) (Nat.le_refl _) (fun k e => e.elim)) | (refine wpList_append_own_at _ rfl _ _ 57 rfl w0.heap.size 37 i0 (.agg #[.string ⟨#[]⟩, .string ⟨#[]⟩]) 2 32 Tryz.underlying57 hin hz0 hz1 hz2 rfl (by decide) _ _ _ rfl (World.ownsRow.alloc hown1 _) ⟨w5.heap.size, 0, none⟩ 1 1 [.string (bs y1), .string (bs y2)] rfl rfl (cells_new w5 [.string (bs y1), .string (bs y2)] 37 w5.heap.size rfl) (by simp [Value.oneCell']) (by unfold maxLen; omega) (by omega) (by simp; have := hb5.size; omega) ?_; intro v2 w6 hown2 hgrow2 hnil2 hloc2; obtain ⟨va2, vc2, rfl⟩ := row_form hown2; have hb6 : Below w0.heap.size w0 w6 := Kept.below (((Kept.of_below (S := fun _ => False) hb5).trans (Kept.alloc _ _ _)).grow_row hgrow2 (fun k e => (hown1.lt k e).1)) (Nat.le_refl _) (fun k e => e.elim)) | (refine wpList_append_own_at _ rfl _ _ 57 rfl w0.heap.size 37 i0 (.agg #[.string ⟨#[]⟩, .string ⟨#[]⟩]) 2 32 Tryz.underlying57 hin hz0 hz1 hz2 rfl (by decide) _ _ _ rfl (r0 _) ⟨sb, so, none⟩ (q) sc (lbCells (S.take q)) rfl n1 (fun j u hu => by rw [add_o]; exact HCW.out _ j u (lbCells_take S _ hu)) z1 (by unfold maxLen; omega) (by omega) (hbD.out _).size ?_; intro v1 w5 hown1 hgrow1 hnil1 hloc1; rw [Nat.zero_add, List.nil_append] at hown1; obtain ⟨va1, vc1, rfl⟩ := row_form hown1; have hb5 : Below w0.heap.size w0 w5 := Kept.below ((Kept.of_below (S := fun _ => False) (hbD.out _)).grow_row hgrow1 (fun k e => by cases e)) (Nat.le_refl _) (fun k e => e.elim); have kY5 := Blk.below kY hb5 kY.lt; have p0 : _ = some _ := (Blk.cell kY5 0).trans (show _ = some (Value.string (bs y1)) from rfl); have p1 : _ = some _ := (Blk.cell kY5 1).trans (show _ = some (Value.string (bs y2)) from rfl))))
              go_roundw
              case rel =>
                have hxs : lbCells (S.take q) ++ [Value.string (bs y1), Value.string (bs y2)] ++ lbCells (S.drop q) = lbCells R := by rw [HR.out, lbCells_append, lbCells_append, ← List.append_assoc]; rfl
                have hRl : R.length = q + 1 + (S.length - q) := by rw [HR.out]; simp <;> omega
                have hS7 : LabsIs w7 (.slice va3 (q + 1 + (S.length - q)) vc3) R := labsIs_row (by rw [← hxs]; exact hown3) hRl (by rw [HR.out]; simp) (by omega) (fun x hx => by
                  rw [HR.out] at hx
                  rcases List.mem_append.1 hx with hx | hx
                  · exact HSB.out x (List.mem_of_mem_take hx)
                  · rcases List.mem_cons.1 hx with rfl | hx
                    · exact ⟨ln, lv⟩
                    · exact HSB.out x (List.mem_of_mem_drop hx))
                exact ⟨k + 1, by omega, by go_num, by rw [HRE.out]; exact hS7, BY.trans (hb7.mono BY.size)⟩
              case measure => simp [intOf]; omega
        · have g1 : (z1 == y1) = false := by simpa using hn
          go_wp2_with fail
          refine wp_region_at (R := GrowR) (by kernel_rfl) (by kernel_rfl) ?_
          (try dsimp only)
          (refine lex_one (by kernel_rfl) (by kernel_rfl) (by kernel_rfl) (fun K hK => ?_); go_big_quiet_step (fail); refine wpQuiet_nil (hK _ ?_); clear hK K); (refine lex_one (by kernel_rfl) (by kernel_rfl) (by kernel_rfl) (fun K hK => ?_); go_big_quiet_step (fail); refine wpQuiet_nil (hK _ ?_); clear hK K)
          (refine lex_val (v := .int .i64 (S.length : Int)) (by kernel_rfl) (fun _ _ h => by cases h) (by kernel_rfl) (by kernel_rfl) (fun _ _ => by go_simp) (lex_put (type := 0) (pos := "") (fun K hK => ?_)); go_big_quiet_step (fail); refine wpQuiet_nil (hK _ ?_); clear hK K)
          (refine lex_one (by kernel_rfl) (by kernel_rfl) (by kernel_rfl) (fun K hK => ?_); go_big_quiet_step (fail); refine wpQuiet_nil (hK _ ?_); clear hK K); (refine lex_one (by kernel_rfl) (by kernel_rfl) (by kernel_rfl) (fun K hK => ?_); go_big_quiet_step (fail); refine wpQuiet_nil (hK _ ?_); clear hK K); (refine lex_one (by kernel_rfl) (by kernel_rfl) (by kernel_rfl) (fun K hK => ?_); go_big_quiet_step (fail); refine wpQuiet_nil (hK _ ?_); clear hK K); (refine lex_one (by kernel_rfl) (by kernel_rfl) (by kernel_rfl) (fun K hK => ?_); go_big_quiet_step (fail); refine wpQuiet_nil (hK _ ?_); clear hK K); (refine lex_one (by kernel_rfl) (by kernel_rfl) (by kernel_rfl) (fun K hK => ?_); go_big_quiet_step (fail); refine wpQuiet_nil (hK _ ?_); clear hK K); (refine lex_one (by kernel_rfl) (by kernel_rfl) (by kernel_rfl) (fun K hK => ?_); go_big_quiet_step (fail); refine wpQuiet_nil (hK _ ?_); clear hK K); (refine lex_one (by kernel_rfl) (by kernel_rfl) (by kernel_rfl) (fun K hK => ?_); go_big_quiet_step (fail); refine wpQuiet_nil (hK _ ?_); clear hK K); (refine lex_one (by kernel_rfl) (by kernel_rfl) (by kernel_rfl) (fun K hK => ?_); go_big_quiet_step (fail); refine wpQuiet_nil (hK _ ?_); clear hK K); (refine lex_one (by kernel_rfl) (by kernel_rfl) (by kernel_rfl) (fun K hK => ?_); go_big_quiet_step (fail); refine wpQuiet_nil (hK _ ?_); clear hK K)
          (refine lex_call (f := 37) (args := #[.string (bs z1), .string (bs y1)]) (v := .bool false) (by kernel_rfl) (fun _ _ h => by cases h) (by kernel_rfl) (by kernel_rfl) (fun _ => by go_simp) (fun W hW => q1.out W) (lex_put (type := 0) (pos := "") (fun K hK => ?_)); go_big_quiet_step (fail); refine wpQuiet_nil (hK _ ?_); clear hK K)
          (refine lex_one (by kernel_rfl) (by kernel_rfl) (by kernel_rfl) (fun K hK => ?_); go_big_quiet_step (fail); refine wpQuiet_nil (hK _ ?_); clear hK K); (refine lex_one (by kernel_rfl) (by kernel_rfl) (by kernel_rfl) (fun K hK => ?_); go_big_quiet_step (fail); refine wpQuiet_nil (hK _ ?_); clear hK K); (refine lex_one (by kernel_rfl) (by kernel_rfl) (by kernel_rfl) (fun K hK => ?_); go_big_quiet_step (fail); refine wpQuiet_nil (hK _ ?_); clear hK K); (refine lex_one (by kernel_rfl) (by kernel_rfl) (by kernel_rfl) (fun K hK => ?_); go_big_quiet_step (fail); refine wpQuiet_nil (hK _ ?_); clear hK K); (refine lex_one (by kernel_rfl) (by kernel_rfl) (by kernel_rfl) (fun K hK => ?_); go_big_quiet_step (fail); refine wpQuiet_nil (hK _ ?_); clear hK K); (refine lex_one (by kernel_rfl) (by kernel_rfl) (by kernel_rfl) (fun K hK => ?_); go_big_quiet_step (fail); refine wpQuiet_nil (hK _ ?_); clear hK K); (refine lex_one (by kernel_rfl) (by kernel_rfl) (by kernel_rfl) (fun K hK => ?_); go_big_quiet_step (fail); refine wpQuiet_nil (hK _ ?_); clear hK K); (refine lex_one (by kernel_rfl) (by kernel_rfl) (by kernel_rfl) (fun K hK => ?_); go_big_quiet_step (fail); refine wpQuiet_nil (hK _ ?_); clear hK K); (refine lex_one (by kernel_rfl) (by kernel_rfl) (by kernel_rfl) (fun K hK => ?_); go_big_quiet_step (fail); refine wpQuiet_nil (hK _ ?_); clear hK K); (refine lex_one (by kernel_rfl) (by kernel_rfl) (by kernel_rfl) (fun K hK => ?_); go_big_quiet_step (fail); refine wpQuiet_nil (hK _ ?_); clear hK K)
          (refine lex_none (by kernel_rfl) (by kernel_rfl) (by kernel_rfl) (fun K hK => ?_); go_big_quiet_step (fail); refine wpQuiet_nil (hK _ ?_); clear hK K); (refine lex_none (by kernel_rfl) (by kernel_rfl) (by kernel_rfl) (fun K hK => ?_); go_big_quiet_step (fail); refine wpQuiet_nil (hK _ ?_); clear hK K); (refine lex_none (by kernel_rfl) (by kernel_rfl) (by kernel_rfl) (fun K hK => ?_); go_big_quiet_step (fail); refine wpQuiet_nil (hK _ ?_); clear hK K); (refine lex_none (by kernel_rfl) (by kernel_rfl) (by kernel_rfl) (fun K hK => ?_); go_big_quiet_step (fail); refine wpQuiet_nil (hK _ ?_); clear hK K); (refine lex_none (by kernel_rfl) (by kernel_rfl) (by kernel_rfl) (fun K hK => ?_); go_big_quiet_step (fail); refine wpQuiet_nil (hK _ ?_); clear hK K); (refine lex_none (by kernel_rfl) (by kernel_rfl) (by kernel_rfl) (fun K hK => ?_); go_big_quiet_step (fail); refine wpQuiet_nil (hK _ ?_); clear hK K); (refine lex_none (by kernel_rfl) (by kernel_rfl) (by kernel_rfl) (fun K hK => ?_); go_big_quiet_step (fail); refine wpQuiet_nil (hK _ ?_); clear hK K); (refine lex_none (by kernel_rfl) (by kernel_rfl) (by kernel_rfl) (fun K hK => ?_); go_big_quiet_step (fail); refine wpQuiet_nil (hK _ ?_); clear hK K)
          (refine lex_one (by kernel_rfl) (by kernel_rfl) (by kernel_rfl) (fun K hK => ?_); go_big_quiet_step (fail); refine wpQuiet_nil (hK _ ?_); clear hK K); (refine lex_one (by kernel_rfl) (by kernel_rfl) (by kernel_rfl) (fun K hK => ?_); go_big_quiet_step (fail); refine wpQuiet_nil (hK _ ?_); clear hK K); (refine lex_one (by kernel_rfl) (by kernel_rfl) (by kernel_rfl) (fun K hK => ?_); go_big_quiet_step (fail); refine wpQuiet_nil (hK _ ?_); clear hK K)
          refine lex_nil (by kernel_rfl) (by kernel_rfl) (by kernel_rfl) ?_
          intro W9 hb9
          simp only [hideAll]
          have hb9' : Below w0.heap.size w0 W9 := hbq.trans (Below.mono hb9 hbq.size)
          clear q1 q2
          have hlt := Lib.hid (show ltB (z1, z2) (y1, y2) = false by rw [HLT.out]; rw [g1]; rfl)
          have hat := HAT.out q (by omega) HQ.out (fun y hy => by rw [HG.out] at hy; obtain rfl := Option.some.inj hy; exact hlt.out)
          rw [hat, HG.out] at HI
          have kQ9 := Blk.below kQ hb9 kQ.lt
          have n0 : _ = some _ := (Blk.cell kQ9 0).trans (show _ = some (Value.string (bs y1)) from rfl)
          have n1 : _ = some _ := (Blk.cell kQ9 1).trans (show _ = some (Value.string (bs y2)) from rfl)
          have u0 := (hb9'.cell (World.block_lt_of_cell? _ _ c0)).trans c0
          have u1 := (hb9'.cell (World.block_lt_of_cell? _ _ c1)).trans c1
          have hq0 := fun W => eqLb_run (z1, z2) (y1, y2) W
          unfold encLb at hq0
          simp only at hq0
          have hcap := SY.2.2 _ _ _ rfl
          clear HAT hat HT HG HQ HLT hlt M0 M1 m0 m1 X0 X1 x0 x1 c0 c1 kQ hSx
          have HNE := Lib.hid (show (z1, z2) ≠ (y1, y2) from fun e => hn (Prod.mk.inj e).1)
          have hq := fun W => (hq0 W).trans (show _ = Result.ok (Value.bool false) W by rw [decide_eq_false HNE.out])
          clear hq0
          go_wp2_with fail
          go_quiet (fail)
          have HR := Lib.hid (show R = S.take q ++ ([(y1, y2)] ++ S.drop q) by rw [HI.out, if_neg (fun e => HNE.out (Option.some.inj e))])
          clear HI HNE hn u0 u1 n0 n1 hq g1 kQ9
          have hbD : Hid (∀ n, Below w0.heap.size w0 (W9.drewN n)) := Lib.hid (fun n => below_drewN hb9' n)
          have HCW := Lib.hid (fun n j u hu => ((hbD.out n).cell (World.block_lt_of_cell? _ _ (HC.out j u hu))).trans (HC.out j u hu))
          have hck : ¬ (sc = q) := by omega
          have n1 : (lbCells (S.take q)).length = q * 2 := by rw [lbCells_len, List.length_take]; omega
          have n3 : (lbCells (S.drop q)).length = (S.length - q) * 2 := by rw [lbCells_len, List.length_drop]
          have z1 := lbCells_one' (S.take q)
          have z3 := lbCells_one' (S.drop q)
          go_wp2_with (at_builtin; go_loud (first | (refine wpList_append_own_at _ rfl _ _ 57 rfl w0.heap.size 37 i0 (.agg #[.string ⟨#[]⟩, .string ⟨#[]⟩]) 2 32 Tryz.underlying57 hin hz0 hz1 hz2 rfl (by decide) _ _ _ rfl hown2 ⟨sb, so + q * 2, none⟩ (S.length - q) (sc - q) (lbCells (S.drop q)) rfl n3 (fun j u hu => by rw [add_o]; have := HC.out _ _ (lbCells_drop S q (by omega) hu); rw [← Nat.add_assoc] at this; exact (hb6.cell hbw).trans this) z3 (by unfold maxLen; omega) (by omega) (by have := hb6.size; omega) ?_; intro v3 w7 hown3 hgrow3 hnil3 hloc3; obtain ⟨va3, vc3, rfl⟩ := row_form hown3; have hb7 : Below w0.heap.size w0 w7 := Kept.below ((Kept.of_below (S := fun _ => False) hb6).grow_row hgrow3 (fun k e => (hown2.lt k e).1)) (Nat.le_refl _) (fun k e => e.elim)) | (refine wpList_append_own_at _ rfl _ _ 57 rfl w0.heap.size 37 i0 (.agg #[.string ⟨#[]⟩, .string ⟨#[]⟩]) 2 32 Tryz.underlying57 hin hz0 hz1 hz2 rfl (by decide) _ _ _ rfl (World.ownsRow.alloc hown1 _) ⟨w5.heap.size, 0, none⟩ 1 1 [.string (bs y1), .string (bs y2)] rfl rfl (cells_new w5 [.string (bs y1), .string (bs y2)] 37 w5.heap.size rfl) (by simp [Value.oneCell']) (by unfold maxLen; omega) (by omega) (by simp; have := hb5.size; omega) ?_; intro v2 w6 hown2 hgrow2 hnil2 hloc2; obtain ⟨va2, vc2, rfl⟩ := row_form hown2; have hb6 : Below w0.heap.size w0 w6 := Kept.below (((Kept.of_below (S := fun _ => False) hb5).trans (Kept.alloc _ _ _)).grow_row hgrow2 (fun k e => (hown1.lt k e).1)) (Nat.le_refl _) (fun k e => e.elim)) | (refine wpList_append_own_at _ rfl _ _ 57 rfl w0.heap.size 37 i0 (.agg #[.string ⟨#[]⟩, .string ⟨#[]⟩]) 2 32 Tryz.underlying57 hin hz0 hz1 hz2 rfl (by decide) _ _ _ rfl (r0 _) ⟨sb, so, none⟩ (q) sc (lbCells (S.take q)) rfl n1 (fun j u hu => by rw [add_o]; exact HCW.out _ j u (lbCells_take S _ hu)) z1 (by unfold maxLen; omega) (by omega) (hbD.out _).size ?_; intro v1 w5 hown1 hgrow1 hnil1 hloc1; rw [Nat.zero_add, List.nil_append] at hown1; obtain ⟨va1, vc1, rfl⟩ := row_form hown1; have hb5 : Below w0.heap.size w0 w5 := Kept.below ((Kept.of_below (S := fun _ => False) (hbD.out _)).grow_row hgrow1 (fun k e => by cases e)) (Nat.le_refl _) (fun k e => e.elim); have kY5 := Blk.below kY hb5 kY.lt; have p0 : _ = some _ := (Blk.cell kY5 0).trans (show _ = some (Value.string (bs y1)) from rfl); have p1 : _ = some _ := (Blk.cell kY5 1).trans (show _ = some (Value.string (bs y2)) from rfl))))
          go_roundw
          case rel =>
            have hxs : lbCells (S.take q) ++ [Value.string (bs y1), Value.string (bs y2)] ++ lbCells (S.drop q) = lbCells R := by rw [HR.out, lbCells_append, lbCells_append, ← List.append_assoc]; rfl
            have hRl : R.length = q + 1 + (S.length - q) := by rw [HR.out]; simp <;> omega
            have hS7 : LabsIs w7 (.slice va3 (q + 1 + (S.length - q)) vc3) R := labsIs_row (by rw [← hxs]; exact hown3) hRl (by rw [HR.out]; simp) (by omega) (fun x hx => by
              rw [HR.out] at hx
              rcases List.mem_append.1 hx with hx | hx
              · exact HSB.out x (List.mem_of_mem_take hx)
              · rcases List.mem_cons.1 hx with rfl | hx
                · exact ⟨ln, lv⟩
                · exact HSB.out x (List.mem_of_mem_drop hx))
            exact ⟨k + 1, by omega, by go_num, by rw [HRE.out]; exact hS7, BY.trans (hb7.mono BY.size)⟩
          case measure => simp [intOf]; omega
      · have hat := HAT.out S.length (Nat.le_refl _) (by rw [← hqN]; exact HQ.out) (fun y hy => by simp at hy)
        have HR := Lib.hid (show R = S.take S.length ++ ([(y1, y2)] ++ S.drop S.length) by rw [HI.out, hat, if_neg (by simp)])
        subst hqN
        have hcap := SY.2.2 _ _ _ rfl
        clear HAT hat HI HQ M0 M1 m0 m1
        by_cases hne : S = []
        · subst hne
          have hv0 := SY.2.1 rfl
          obtain ⟨rfl, _, rfl⟩ := Value.slice.inj hv0
          have HR1 := Lib.hid (show R = [(y1, y2)] by rw [HR.out]; simp)
          clear HR hv0 hcap hSx hSn hq SY HSB
          go_wp2_with fail
          refine wp_region_at (R := GrowR) (by kernel_rfl) (by kernel_rfl) ?_
          (try dsimp only)
          (refine lex_one (by kernel_rfl) (by kernel_rfl) (by kernel_rfl) (fun K hK => ?_); go_big_quiet_step (fail); refine wpQuiet_nil (hK _ ?_); clear hK K); (refine lex_one (by kernel_rfl) (by kernel_rfl) (by kernel_rfl) (fun K hK => ?_); go_big_quiet_step (fail); refine wpQuiet_nil (hK _ ?_); clear hK K)
          (refine lex_val (v := .int .i64 (([] : List Lb).length : Int)) (by kernel_rfl) (fun _ _ h => by cases h) (by kernel_rfl) (by kernel_rfl) (fun _ _ => by go_simp) (lex_put (type := 0) (pos := "") (fun K hK => ?_)); go_big_quiet_step (fail); refine wpQuiet_nil (hK _ ?_); clear hK K)
          (refine lex_one (by kernel_rfl) (by kernel_rfl) (by kernel_rfl) (fun K hK => ?_); go_big_quiet_step (fail); refine wpQuiet_nil (hK _ ?_); clear hK K); (refine lex_one (by kernel_rfl) (by kernel_rfl) (by kernel_rfl) (fun K hK => ?_); go_big_quiet_step (fail); refine wpQuiet_nil (hK _ ?_); clear hK K)
          (refine lex_none (by kernel_rfl) (by kernel_rfl) (by kernel_rfl) (fun K hK => ?_); go_big_quiet_step (fail); refine wpQuiet_nil (hK _ ?_); clear hK K); (refine lex_none (by kernel_rfl) (by kernel_rfl) (by kernel_rfl) (fun K hK => ?_); go_big_quiet_step (fail); refine wpQuiet_nil (hK _ ?_); clear hK K); (refine lex_none (by kernel_rfl) (by kernel_rfl) (by kernel_rfl) (fun K hK => ?_); go_big_quiet_step (fail); refine wpQuiet_nil (hK _ ?_); clear hK K); (refine lex_none (by kernel_rfl) (by kernel_rfl) (by kernel_rfl) (fun K hK => ?_); go_big_quiet_step (fail); refine wpQuiet_nil (hK _ ?_); clear hK K); (refine lex_none (by kernel_rfl) (by kernel_rfl) (by kernel_rfl) (fun K hK => ?_); go_big_quiet_step (fail); refine wpQuiet_nil (hK _ ?_); clear hK K); (refine lex_none (by kernel_rfl) (by kernel_rfl) (by kernel_rfl) (fun K hK => ?_); go_big_quiet_step (fail); refine wpQuiet_nil (hK _ ?_); clear hK K); (refine lex_none (by kernel_rfl) (by kernel_rfl) (by kernel_rfl) (fun K hK => ?_); go_big_quiet_step (fail); refine wpQuiet_nil (hK _ ?_); clear hK K); (refine lex_none (by kernel_rfl) (by kernel_rfl) (by kernel_rfl) (fun K hK => ?_); go_big_quiet_step (fail); refine wpQuiet_nil (hK _ ?_); clear hK K); (refine lex_none (by kernel_rfl) (by kernel_rfl) (by kernel_rfl) (fun K hK => ?_); go_big_quiet_step (fail); refine wpQuiet_nil (hK _ ?_); clear hK K); (refine lex_none (by kernel_rfl) (by kernel_rfl) (by kernel_rfl) (fun K hK => ?_); go_big_quiet_step (fail); refine wpQuiet_nil (hK _ ?_); clear hK K); (refine lex_none (by kernel_rfl) (by kernel_rfl) (by kernel_rfl) (fun K hK => ?_); go_big_quiet_step (fail); refine wpQuiet_nil (hK _ ?_); clear hK K); (refine lex_none (by kernel_rfl) (by kernel_rfl) (by kernel_rfl) (fun K hK => ?_); go_big_quiet_step (fail); refine wpQuiet_nil (hK _ ?_); clear hK K); (refine lex_none (by kernel_rfl) (by kernel_rfl) (by kernel_rfl) (fun K hK => ?_); go_big_quiet_step (fail); refine wpQuiet_nil (hK _ ?_); clear hK K); (refine lex_none (by kernel_rfl) (by kernel_rfl) (by kernel_rfl) (fun K hK => ?_); go_big_quiet_step (fail); refine wpQuiet_nil (hK _ ?_); clear hK K); (refine lex_none (by kernel_rfl) (by kernel_rfl) (by kernel_rfl) (fun K hK => ?_); go_big_quiet_step (fail); refine wpQuiet_nil (hK _ ?_); clear hK K); (refine lex_none (by kernel_rfl) (by kernel_rfl) (by kernel_rfl) (fun K hK => ?_); go_big_quiet_step (fail); refine wpQuiet_nil (hK _ ?_); clear hK K); (refine lex_none (by kernel_rfl) (by kernel_rfl) (by kernel_rfl) (fun K hK => ?_); go_big_quiet_step (fail); refine wpQuiet_nil (hK _ ?_); clear hK K); (refine lex_none (by kernel_rfl) (by kernel_rfl) (by kernel_rfl) (fun K hK => ?_); go_big_quiet_step (fail); refine wpQuiet_nil (hK _ ?_); clear hK K); (refine lex_none (by kernel_rfl) (by kernel_rfl) (by kernel_rfl) (fun K hK => ?_); go_big_quiet_step (fail); refine wpQuiet_nil (hK _ ?_); clear hK K); (refine lex_none (by kernel_rfl) (by kernel_rfl) (by kernel_rfl) (fun K hK => ?_); go_big_quiet_step (fail); refine wpQuiet_nil (hK _ ?_); clear hK K); (refine lex_none (by kernel_rfl) (by kernel_rfl) (by kernel_rfl) (fun K hK => ?_); go_big_quiet_step (fail); refine wpQuiet_nil (hK _ ?_); clear hK K); (refine lex_none (by kernel_rfl) (by kernel_rfl) (by kernel_rfl) (fun K hK => ?_); go_big_quiet_step (fail); refine wpQuiet_nil (hK _ ?_); clear hK K); (refine lex_none (by kernel_rfl) (by kernel_rfl) (by kernel_rfl) (fun K hK => ?_); go_big_quiet_step (fail); refine wpQuiet_nil (hK _ ?_); clear hK K); (refine lex_none (by kernel_rfl) (by kernel_rfl) (by kernel_rfl) (fun K hK => ?_); go_big_quiet_step (fail); refine wpQuiet_nil (hK _ ?_); clear hK K); (refine lex_none (by kernel_rfl) (by kernel_rfl) (by kernel_rfl) (fun K hK => ?_); go_big_quiet_step (fail); refine wpQuiet_nil (hK _ ?_); clear hK K); (refine lex_none (by kernel_rfl) (by kernel_rfl) (by kernel_rfl) (fun K hK => ?_); go_big_quiet_step (fail); refine wpQuiet_nil (hK _ ?_); clear hK K); (refine lex_none (by kernel_rfl) (by kernel_rfl) (by kernel_rfl) (fun K hK => ?_); go_big_quiet_step (fail); refine wpQuiet_nil (hK _ ?_); clear hK K); (refine lex_none (by kernel_rfl) (by kernel_rfl) (by kernel_rfl) (fun K hK => ?_); go_big_quiet_step (fail); refine wpQuiet_nil (hK _ ?_); clear hK K)
          (refine lex_one (by kernel_rfl) (by kernel_rfl) (by kernel_rfl) (fun K hK => ?_); go_big_quiet_step (fail); refine wpQuiet_nil (hK _ ?_); clear hK K)
          refine lex_nil (by kernel_rfl) (by kernel_rfl) (by kernel_rfl) ?_
          intro W9 hb9
          simp only [hideAll]
          have hb9' : Below w0.heap.size w0 W9 := hbq.trans (Below.mono hb9 hbq.size)
          go_wp2_with fail
          go_quiet (fail)
          have hbD : Hid (∀ n, Below w0.heap.size w0 (W9.drewN n)) := Lib.hid (fun n => below_drewN hb9' n)
          have kYD : ∀ n, Blk (W9.drewN n) G 37 #[.string (bs y1), .string (bs y2)] := fun n => Blk.below kY (hbD.out n) kY.lt
          have p0 : ∀ n, (W9.drewN n).cell? ⟨G, 0, none⟩ = some (Value.string (bs y1)) := fun n => (Blk.cell (kYD n) 0).trans rfl
          have p1 : ∀ n, (W9.drewN n).cell? ⟨G, 1, none⟩ = some (Value.string (bs y2)) := fun n => (Blk.cell (kYD n) 1).trans rfl
          go_wp2_with (at_builtin; go_loud (first | (refine wpList_append_own_none rfl _ _ 57 rfl w0.heap.size 37 i0 2 Tryz.underlying57 hin _ _ _ rfl hown1 rfl ?_) | (refine wpList_append_own_at _ rfl _ _ 57 rfl w0.heap.size 37 i0 (.agg #[.string ⟨#[]⟩, .string ⟨#[]⟩]) 2 32 Tryz.underlying57 hin hz0 hz1 hz2 rfl (by decide) _ _ _ rfl (World.ownsRow.alloc (r0 _) _) ⟨_, 0, none⟩ 1 1 [.string (bs y1), .string (bs y2)] rfl rfl (cells_new _ [.string (bs y1), .string (bs y2)] 37 _ rfl) (by simp [Value.oneCell']) (by unfold maxLen; omega) (by omega) (by simp; have := (hbD.out 0).size; simp at this; omega) ?_; intro v1 w5 hown1 hgrow1 hnil1 hloc1; rw [Nat.zero_add, List.nil_append] at hown1; obtain ⟨va1, vc1, rfl⟩ := row_form hown1; have hb5 : Below w0.heap.size w0 w5 := Kept.below (((Kept.of_below (S := fun _ => False) (hbD.out _)).trans (Kept.alloc _ _ _)).grow_row hgrow1 (fun k e => by cases e)) (Nat.le_refl _) (fun k e => e.elim)) | (refine wpList_append_own_none rfl _ _ 57 rfl w0.heap.size 37 i0 2 Tryz.underlying57 hin _ _ _ rfl (r0 _) rfl ?_)))
          go_roundw
          case rel =>
            have hS7 : LabsIs w5 (.slice va1 1 vc1) R := labsIs_row (by rw [HR1.out]; exact hown1) (by rw [HR1.out]; rfl) (by rw [HR1.out]; simp) (by rw [HR1.out]; simp) (fun x hx => by rw [HR1.out] at hx; obtain rfl := List.mem_singleton.1 hx; exact ⟨ln, lv⟩)
            exact ⟨k + 1, by omega, by go_num, by rw [HRE.out]; exact hS7, BY.trans (hb5.mono BY.size)⟩
          case measure => simp [intOf]; omega
        · have hLp : 0 < S.length := List.length_pos_iff.2 hne
          obtain ⟨sb, so, rfl, _, _, c0, _⟩ := hSx.out 0 hLp
          have hbw := World.block_lt_of_cell? _ _ c0
          simp only at hbw
          have HC := Lib.hid (labs_cells SY.1)
          clear c0 hSx hne
          by_cases hck : sc = S.length
          · subst hck
            go_wp2_with fail
            refine wp_region_at (R := GrowR) (by kernel_rfl) (by kernel_rfl) ?_
            (try dsimp only)
            (refine lex_one (by kernel_rfl) (by kernel_rfl) (by kernel_rfl) (fun K hK => ?_); go_big_quiet_step (fail); refine wpQuiet_nil (hK _ ?_); clear hK K); (refine lex_one (by kernel_rfl) (by kernel_rfl) (by kernel_rfl) (fun K hK => ?_); go_big_quiet_step (fail); refine wpQuiet_nil (hK _ ?_); clear hK K)
            (refine lex_val (v := .int .i64 (S.length : Int)) (by kernel_rfl) (fun _ _ h => by cases h) (by kernel_rfl) (by kernel_rfl) (fun _ _ => by go_simp) (lex_put (type := 0) (pos := "") (fun K hK => ?_)); go_big_quiet_step (fail); refine wpQuiet_nil (hK _ ?_); clear hK K)
            (refine lex_one (by kernel_rfl) (by kernel_rfl) (by kernel_rfl) (fun K hK => ?_); go_big_quiet_step (fail); refine wpQuiet_nil (hK _ ?_); clear hK K); (refine lex_one (by kernel_rfl) (by kernel_rfl) (by kernel_rfl) (fun K hK => ?_); go_big_quiet_step (fail); refine wpQuiet_nil (hK _ ?_); clear hK K)
            (refine lex_none (by kernel_rfl) (by kernel_rfl) (by kernel_rfl) (fun K hK => ?_); go_big_quiet_step (fail); refine wpQuiet_nil (hK _ ?_); clear hK K); (refine lex_none (by kernel_rfl) (by kernel_rfl) (by kernel_rfl) (fun K hK => ?_); go_big_quiet_step (fail); refine wpQuiet_nil (hK _ ?_); clear hK K); (refine lex_none (by kernel_rfl) (by kernel_rfl) (by kernel_rfl) (fun K hK => ?_); go_big_quiet_step (fail); refine wpQuiet_nil (hK _ ?_); clear hK K); (refine lex_none (by kernel_rfl) (by kernel_rfl) (by kernel_rfl) (fun K hK => ?_); go_big_quiet_step (fail); refine wpQuiet_nil (hK _ ?_); clear hK K); (refine lex_none (by kernel_rfl) (by kernel_rfl) (by kernel_rfl) (fun K hK => ?_); go_big_quiet_step (fail); refine wpQuiet_nil (hK _ ?_); clear hK K); (refine lex_none (by kernel_rfl) (by kernel_rfl) (by kernel_rfl) (fun K hK => ?_); go_big_quiet_step (fail); refine wpQuiet_nil (hK _ ?_); clear hK K); (refine lex_none (by kernel_rfl) (by kernel_rfl) (by kernel_rfl) (fun K hK => ?_); go_big_quiet_step (fail); refine wpQuiet_nil (hK _ ?_); clear hK K); (refine lex_none (by kernel_rfl) (by kernel_rfl) (by kernel_rfl) (fun K hK => ?_); go_big_quiet_step (fail); refine wpQuiet_nil (hK _ ?_); clear hK K); (refine lex_none (by kernel_rfl) (by kernel_rfl) (by kernel_rfl) (fun K hK => ?_); go_big_quiet_step (fail); refine wpQuiet_nil (hK _ ?_); clear hK K); (refine lex_none (by kernel_rfl) (by kernel_rfl) (by kernel_rfl) (fun K hK => ?_); go_big_quiet_step (fail); refine wpQuiet_nil (hK _ ?_); clear hK K); (refine lex_none (by kernel_rfl) (by kernel_rfl) (by kernel_rfl) (fun K hK => ?_); go_big_quiet_step (fail); refine wpQuiet_nil (hK _ ?_); clear hK K); (refine lex_none (by kernel_rfl) (by kernel_rfl) (by kernel_rfl) (fun K hK => ?_); go_big_quiet_step (fail); refine wpQuiet_nil (hK _ ?_); clear hK K); (refine lex_none (by kernel_rfl) (by kernel_rfl) (by kernel_rfl) (fun K hK => ?_); go_big_quiet_step (fail); refine wpQuiet_nil (hK _ ?_); clear hK K); (refine lex_none (by kernel_rfl) (by kernel_rfl) (by kernel_rfl) (fun K hK => ?_); go_big_quiet_step (fail); refine wpQuiet_nil (hK _ ?_); clear hK K); (refine lex_none (by kernel_rfl) (by kernel_rfl) (by kernel_rfl) (fun K hK => ?_); go_big_quiet_step (fail); refine wpQuiet_nil (hK _ ?_); clear hK K); (refine lex_none (by kernel_rfl) (by kernel_rfl) (by kernel_rfl) (fun K hK => ?_); go_big_quiet_step (fail); refine wpQuiet_nil (hK _ ?_); clear hK K); (refine lex_none (by kernel_rfl) (by kernel_rfl) (by kernel_rfl) (fun K hK => ?_); go_big_quiet_step (fail); refine wpQuiet_nil (hK _ ?_); clear hK K); (refine lex_none (by kernel_rfl) (by kernel_rfl) (by kernel_rfl) (fun K hK => ?_); go_big_quiet_step (fail); refine wpQuiet_nil (hK _ ?_); clear hK K); (refine lex_none (by kernel_rfl) (by kernel_rfl) (by kernel_rfl) (fun K hK => ?_); go_big_quiet_step (fail); refine wpQuiet_nil (hK _ ?_); clear hK K); (refine lex_none (by kernel_rfl) (by kernel_rfl) (by kernel_rfl) (fun K hK => ?_); go_big_quiet_step (fail); refine wpQuiet_nil (hK _ ?_); clear hK K); (refine lex_none (by kernel_rfl) (by kernel_rfl) (by kernel_rfl) (fun K hK => ?_); go_big_quiet_step (fail); refine wpQuiet_nil (hK _ ?_); clear hK K); (refine lex_none (by kernel_rfl) (by kernel_rfl) (by kernel_rfl) (fun K hK => ?_); go_big_quiet_step (fail); refine wpQuiet_nil (hK _ ?_); clear hK K); (refine lex_none (by kernel_rfl) (by kernel_rfl) (by kernel_rfl) (fun K hK => ?_); go_big_quiet_step (fail); refine wpQuiet_nil (hK _ ?_); clear hK K); (refine lex_none (by kernel_rfl) (by kernel_rfl) (by kernel_rfl) (fun K hK => ?_); go_big_quiet_step (fail); refine wpQuiet_nil (hK _ ?_); clear hK K); (refine lex_none (by kernel_rfl) (by kernel_rfl) (by kernel_rfl) (fun K hK => ?_); go_big_quiet_step (fail); refine wpQuiet_nil (hK _ ?_); clear hK K); (refine lex_none (by kernel_rfl) (by kernel_rfl) (by kernel_rfl) (fun K hK => ?_); go_big_quiet_step (fail); refine wpQuiet_nil (hK _ ?_); clear hK K); (refine lex_none (by kernel_rfl) (by kernel_rfl) (by kernel_rfl) (fun K hK => ?_); go_big_quiet_step (fail); refine wpQuiet_nil (hK _ ?_); clear hK K); (refine lex_none (by kernel_rfl) (by kernel_rfl) (by kernel_rfl) (fun K hK => ?_); go_big_quiet_step (fail); refine wpQuiet_nil (hK _ ?_); clear hK K)
            (refine lex_one (by kernel_rfl) (by kernel_rfl) (by kernel_rfl) (fun K hK => ?_); go_big_quiet_step (fail); refine wpQuiet_nil (hK _ ?_); clear hK K)
            refine lex_nil (by kernel_rfl) (by kernel_rfl) (by kernel_rfl) ?_
            intro W9 hb9
            simp only [hideAll]
            have hb9' : Below w0.heap.size w0 W9 := hbq.trans (Below.mono hb9 hbq.size)
            go_wp2_with fail
            go_quiet (fail)
            have hbD : Hid (∀ n, Below w0.heap.size w0 (W9.drewN n)) := Lib.hid (fun n => below_drewN hb9' n)
            have HCW := Lib.hid (fun n j u hu => ((hbD.out n).cell (World.block_lt_of_cell? _ _ (HC.out j u hu))).trans (HC.out j u hu))
            have n1 : (lbCells (S.take S.length)).length = S.length * 2 := by rw [lbCells_len, List.length_take]; omega
            have n3 : (lbCells (S.drop S.length)).length = 0 * 2 := by rw [lbCells_len, List.length_drop]; omega
            have z1 := lbCells_one' (S.take S.length)
            have z3 := lbCells_one' (S.drop S.length)
            go_wp2_with (at_builtin; go_loud (first | (refine wpList_append_own_at _ rfl _ _ 57 rfl w0.heap.size 37 i0 (.agg #[.string ⟨#[]⟩, .string ⟨#[]⟩]) 2 32 Tryz.underlying57 hin hz0 hz1 hz2 rfl (by decide) _ _ _ rfl hown2 ⟨sb, so, none⟩ (0) (0) (lbCells (S.drop S.length)) rfl n3 (fun j u hu => by rw [List.drop_length] at hu; simp [lbCells] at hu) z3 (by unfold maxLen; omega) (by omega) (by have := hb6.size; omega) ?_; intro v3 w7 hown3 hgrow3 hnil3 hloc3; obtain ⟨va3, vc3, rfl⟩ := row_form hown3; have hb7 : Below w0.heap.size w0 w7 := Kept.below ((Kept.of_below (S := fun _ => False) hb6).grow_row hgrow3 (fun k e => (hown2.lt k e).1)) (Nat.le_refl _) (fun k e => e.elim)) | (refine wpList_append_own_at _ rfl _ _ 57 rfl w0.heap.size 37 i0 (.agg #[.string ⟨#[]⟩, .string ⟨#[]⟩]) 2 32 Tryz.underlying57 hin hz0 hz1 hz2 rfl (by decide) _ _ _ rfl (World.ownsRow.alloc hown1 _) ⟨w5.heap.size, 0, none⟩ 1 1 [.string (bs y1), .string (bs y2)] rfl rfl (cells_new w5 [.string (bs y1), .string (bs y2)] 37 w5.heap.size rfl) (by simp [Value.oneCell']) (by unfold maxLen; omega) (by omega) (by simp; have := hb5.size; omega) ?_; intro v2 w6 hown2 hgrow2 hnil2 hloc2; obtain ⟨va2, vc2, rfl⟩ := row_form hown2; have hb6 : Below w0.heap.size w0 w6 := Kept.below (((Kept.of_below (S := fun _ => False) hb5).trans (Kept.alloc _ _ _)).grow_row hgrow2 (fun k e => (hown1.lt k e).1)) (Nat.le_refl _) (fun k e => e.elim)) | (refine wpList_append_own_at _ rfl _ _ 57 rfl w0.heap.size 37 i0 (.agg #[.string ⟨#[]⟩, .string ⟨#[]⟩]) 2 32 Tryz.underlying57 hin hz0 hz1 hz2 rfl (by decide) _ _ _ rfl (r0 _) ⟨sb, so, none⟩ (S.length) S.length (lbCells (S.take S.length)) rfl n1 (fun j u hu => by rw [add_o]; exact HCW.out _ j u (lbCells_take S _ hu)) z1 (by unfold maxLen; omega) (by omega) (hbD.out _).size ?_; intro v1 w5 hown1 hgrow1 hnil1 hloc1; rw [Nat.zero_add, List.nil_append] at hown1; obtain ⟨va1, vc1, rfl⟩ := row_form hown1; have hb5 : Below w0.heap.size w0 w5 := Kept.below ((Kept.of_below (S := fun _ => False) (hbD.out _)).grow_row hgrow1 (fun k e => by cases e)) (Nat.le_refl _) (fun k e => e.elim); have kY5 := Blk.below kY hb5 kY.lt; have p0 : _ = some _ := (Blk.cell kY5 0).trans (show _ = some (Value.string (bs y1)) from rfl); have p1 : _ = some _ := (Blk.cell kY5 1).trans (show _ = some (Value.string (bs y2)) from rfl))))
            go_roundw
            case rel =>
              have hxs : lbCells (S.take S.length) ++ [Value.string (bs y1), Value.string (bs y2)] ++ lbCells (S.drop S.length) = lbCells R := by rw [HR.out, lbCells_append, lbCells_append, ← List.append_assoc]; rfl
              have hRl : R.length = S.length + 1 + (0) := by rw [HR.out]; simp <;> omega
              have hS7 : LabsIs w7 (.slice va3 (S.length + 1 + (0)) vc3) R := labsIs_row (by rw [← hxs]; exact hown3) hRl (by rw [HR.out]; simp) (by omega) (fun x hx => by
                rw [HR.out] at hx
                rcases List.mem_append.1 hx with hx | hx
                · exact HSB.out x (List.mem_of_mem_take hx)
                · rcases List.mem_cons.1 hx with rfl | hx
                  · exact ⟨ln, lv⟩
                  · exact HSB.out x (List.mem_of_mem_drop hx))
              exact ⟨k + 1, by omega, by go_num, by rw [HRE.out]; exact hS7, BY.trans (hb7.mono BY.size)⟩
            case measure => simp [intOf]; omega
          · skip
            go_wp2_with fail
            refine wp_region_at (R := GrowR) (by kernel_rfl) (by kernel_rfl) ?_
            (try dsimp only)
            (refine lex_one (by kernel_rfl) (by kernel_rfl) (by kernel_rfl) (fun K hK => ?_); go_big_quiet_step (fail); refine wpQuiet_nil (hK _ ?_); clear hK K); (refine lex_one (by kernel_rfl) (by kernel_rfl) (by kernel_rfl) (fun K hK => ?_); go_big_quiet_step (fail); refine wpQuiet_nil (hK _ ?_); clear hK K)
            (refine lex_val (v := .int .i64 (S.length : Int)) (by kernel_rfl) (fun _ _ h => by cases h) (by kernel_rfl) (by kernel_rfl) (fun _ _ => by go_simp) (lex_put (type := 0) (pos := "") (fun K hK => ?_)); go_big_quiet_step (fail); refine wpQuiet_nil (hK _ ?_); clear hK K)
            (refine lex_one (by kernel_rfl) (by kernel_rfl) (by kernel_rfl) (fun K hK => ?_); go_big_quiet_step (fail); refine wpQuiet_nil (hK _ ?_); clear hK K); (refine lex_one (by kernel_rfl) (by kernel_rfl) (by kernel_rfl) (fun K hK => ?_); go_big_quiet_step (fail); refine wpQuiet_nil (hK _ ?_); clear hK K)
            (refine lex_none (by kernel_rfl) (by kernel_rfl) (by kernel_rfl) (fun K hK => ?_); go_big_quiet_step (fail); refine wpQuiet_nil (hK _ ?_); clear hK K); (refine lex_none (by kernel_rfl) (by kernel_rfl) (by kernel_rfl) (fun K hK => ?_); go_big_quiet_step (fail); refine wpQuiet_nil (hK _ ?_); clear hK K); (refine lex_none (by kernel_rfl) (by kernel_rfl) (by kernel_rfl) (fun K hK => ?_); go_big_quiet_step (fail); refine wpQuiet_nil (hK _ ?_); clear hK K); (refine lex_none (by kernel_rfl) (by kernel_rfl) (by kernel_rfl) (fun K hK => ?_); go_big_quiet_step (fail); refine wpQuiet_nil (hK _ ?_); clear hK K); (refine lex_none (by kernel_rfl) (by kernel_rfl) (by kernel_rfl) (fun K hK => ?_); go_big_quiet_step (fail); refine wpQuiet_nil (hK _ ?_); clear hK K); (refine lex_none (by kernel_rfl) (by kernel_rfl) (by kernel_rfl) (fun K hK => ?_); go_big_quiet_step (fail); refine wpQuiet_nil (hK _ ?_); clear hK K); (refine lex_none (by kernel_rfl) (by kernel_rfl) (by kernel_rfl) (fun K hK => ?_); go_big_quiet_step (fail); refine wpQuiet_nil (hK _ ?_); clear hK K); (refine lex_none (by kernel_rfl) (by kernel_rfl) (by kernel_rfl) (fun K hK => ?_); go_big_quiet_step (fail); refine wpQuiet_nil (hK _ ?_); clear hK K); (refine lex_none (by kernel_rfl) (by kernel_rfl) (by kernel_rfl) (fun K hK => ?_); go_big_quiet_step (fail); refine wpQuiet_nil (hK _ ?_); clear hK K); (refine lex_none (by kernel_rfl) (by kernel_rfl) (by kernel_rfl) (fun K hK => ?_); go_big_quiet_step (fail); refine wpQuiet_nil (hK _ ?_); clear hK K); (refine lex_none (by kernel_rfl) (by kernel_rfl) (by kernel_rfl) (fun K hK => ?_); go_big_quiet_step (fail); refine wpQuiet_nil (hK _ ?_); clear hK K); (refine lex_none (by kernel_rfl) (by kernel_rfl) (by kernel_rfl) (fun K hK => ?_); go_big_quiet_step (fail); refine wpQuiet_nil (hK _ ?_); clear hK K); (refine lex_none (by kernel_rfl) (by kernel_rfl) (by kernel_rfl) (fun K hK => ?_); go_big_quiet_step (fail); refine wpQuiet_nil (hK _ ?_); clear hK K); (refine lex_none (by kernel_rfl) (by kernel_rfl) (by kernel_rfl) (fun K hK => ?_); go_big_quiet_step (fail); refine wpQuiet_nil (hK _ ?_); clear hK K); (refine lex_none (by kernel_rfl) (by kernel_rfl) (by kernel_rfl) (fun K hK => ?_); go_big_quiet_step (fail); refine wpQuiet_nil (hK _ ?_); clear hK K); (refine lex_none (by kernel_rfl) (by kernel_rfl) (by kernel_rfl) (fun K hK => ?_); go_big_quiet_step (fail); refine wpQuiet_nil (hK _ ?_); clear hK K); (refine lex_none (by kernel_rfl) (by kernel_rfl) (by kernel_rfl) (fun K hK => ?_); go_big_quiet_step (fail); refine wpQuiet_nil (hK _ ?_); clear hK K); (refine lex_none (by kernel_rfl) (by kernel_rfl) (by kernel_rfl) (fun K hK => ?_); go_big_quiet_step (fail); refine wpQuiet_nil (hK _ ?_); clear hK K); (refine lex_none (by kernel_rfl) (by kernel_rfl) (by kernel_rfl) (fun K hK => ?_); go_big_quiet_step (fail); refine wpQuiet_nil (hK _ ?_); clear hK K); (refine lex_none (by kernel_rfl) (by kernel_rfl) (by kernel_rfl) (fun K hK => ?_); go_big_quiet_step (fail); refine wpQuiet_nil (hK _ ?_); clear hK K); (refine lex_none (by kernel_rfl) (by kernel_rfl) (by kernel_rfl) (fun K hK => ?_); go_big_quiet_step (fail); refine wpQuiet_nil (hK _ ?_); clear hK K); (refine lex_none (by kernel_rfl) (by kernel_rfl) (by kernel_rfl) (fun K hK => ?_); go_big_quiet_step (fail); refine wpQuiet_nil (hK _ ?_); clear hK K); (refine lex_none (by kernel_rfl) (by kernel_rfl) (by kernel_rfl) (fun K hK => ?_); go_big_quiet_step (fail); refine wpQuiet_nil (hK _ ?_); clear hK K); (refine lex_none (by kernel_rfl) (by kernel_rfl) (by kernel_rfl) (fun K hK => ?_); go_big_quiet_step (fail); refine wpQuiet_nil (hK _ ?_); clear hK K); (refine lex_none (by kernel_rfl) (by kernel_rfl) (by kernel_rfl) (fun K hK => ?_); go_big_quiet_step (fail); refine wpQuiet_nil (hK _ ?_); clear hK K); (refine lex_none (by kernel_rfl) (by kernel_rfl) (by kernel_rfl) (fun K hK => ?_); go_big_quiet_step (fail); refine wpQuiet_nil (hK _ ?_); clear hK K); (refine lex_none (by kernel_rfl) (by kernel_rfl) (by kernel_rfl) (fun K hK => ?_); go_big_quiet_step (fail); refine wpQuiet_nil (hK _ ?_); clear hK K); (refine lex_none (by kernel_rfl) (by kernel_rfl) (by kernel_rfl) (fun K hK => ?_); go_big_quiet_step (fail); refine wpQuiet_nil (hK _ ?_); clear hK K)
            (refine lex_one (by kernel_rfl) (by kernel_rfl) (by kernel_rfl) (fun K hK => ?_); go_big_quiet_step (fail); refine wpQuiet_nil (hK _ ?_); clear hK K)
            refine lex_nil (by kernel_rfl) (by kernel_rfl) (by kernel_rfl) ?_
            intro W9 hb9
            simp only [hideAll]
            have hb9' : Below w0.heap.size w0 W9 := hbq.trans (Below.mono hb9 hbq.size)
            go_wp2_with fail
            go_quiet (fail)
            have hbD : Hid (∀ n, Below w0.heap.size w0 (W9.drewN n)) := Lib.hid (fun n => below_drewN hb9' n)
            have HCW := Lib.hid (fun n j u hu => ((hbD.out n).cell (World.block_lt_of_cell? _ _ (HC.out j u hu))).trans (HC.out j u hu))
            have n1 : (lbCells (S.take S.length)).length = S.length * 2 := by rw [lbCells_len, List.length_take]; omega
            have n3 : (lbCells (S.drop S.length)).length = 0 * 2 := by rw [lbCells_len, List.length_drop]; omega
            have z1 := lbCells_one' (S.take S.length)
            have z3 := lbCells_one' (S.drop S.length)
            go_wp2_with (at_builtin; go_loud (first | (refine wpList_append_own_at _ rfl _ _ 57 rfl w0.heap.size 37 i0 (.agg #[.string ⟨#[]⟩, .string ⟨#[]⟩]) 2 32 Tryz.underlying57 hin hz0 hz1 hz2 rfl (by decide) _ _ _ rfl hown2 ⟨sb, so + S.length * 2, none⟩ (0) (sc - S.length) (lbCells (S.drop S.length)) rfl n3 (fun j u hu => by rw [List.drop_length] at hu; simp [lbCells] at hu) z3 (by unfold maxLen; omega) (by omega) (by have := hb6.size; omega) ?_; intro v3 w7 hown3 hgrow3 hnil3 hloc3; obtain ⟨va3, vc3, rfl⟩ := row_form hown3; have hb7 : Below w0.heap.size w0 w7 := Kept.below ((Kept.of_below (S := fun _ => False) hb6).grow_row hgrow3 (fun k e => (hown2.lt k e).1)) (Nat.le_refl _) (fun k e => e.elim)) | (refine wpList_append_own_at _ rfl _ _ 57 rfl w0.heap.size 37 i0 (.agg #[.string ⟨#[]⟩, .string ⟨#[]⟩]) 2 32 Tryz.underlying57 hin hz0 hz1 hz2 rfl (by decide) _ _ _ rfl (World.ownsRow.alloc hown1 _) ⟨w5.heap.size, 0, none⟩ 1 1 [.string (bs y1), .string (bs y2)] rfl rfl (cells_new w5 [.string (bs y1), .string (bs y2)] 37 w5.heap.size rfl) (by simp [Value.oneCell']) (by unfold maxLen; omega) (by omega) (by simp; have := hb5.size; omega) ?_; intro v2 w6 hown2 hgrow2 hnil2 hloc2; obtain ⟨va2, vc2, rfl⟩ := row_form hown2; have hb6 : Below w0.heap.size w0 w6 := Kept.below (((Kept.of_below (S := fun _ => False) hb5).trans (Kept.alloc _ _ _)).grow_row hgrow2 (fun k e => (hown1.lt k e).1)) (Nat.le_refl _) (fun k e => e.elim)) | (refine wpList_append_own_at _ rfl _ _ 57 rfl w0.heap.size 37 i0 (.agg #[.string ⟨#[]⟩, .string ⟨#[]⟩]) 2 32 Tryz.underlying57 hin hz0 hz1 hz2 rfl (by decide) _ _ _ rfl (r0 _) ⟨sb, so, none⟩ (S.length) sc (lbCells (S.take S.length)) rfl n1 (fun j u hu => by rw [add_o]; exact HCW.out _ j u (lbCells_take S _ hu)) z1 (by unfold maxLen; omega) (by omega) (hbD.out _).size ?_; intro v1 w5 hown1 hgrow1 hnil1 hloc1; rw [Nat.zero_add, List.nil_append] at hown1; obtain ⟨va1, vc1, rfl⟩ := row_form hown1; have hb5 : Below w0.heap.size w0 w5 := Kept.below ((Kept.of_below (S := fun _ => False) (hbD.out _)).grow_row hgrow1 (fun k e => by cases e)) (Nat.le_refl _) (fun k e => e.elim); have kY5 := Blk.below kY hb5 kY.lt; have p0 : _ = some _ := (Blk.cell kY5 0).trans (show _ = some (Value.string (bs y1)) from rfl); have p1 : _ = some _ := (Blk.cell kY5 1).trans (show _ = some (Value.string (bs y2)) from rfl))))
            go_roundw
            case rel =>
              have hxs : lbCells (S.take S.length) ++ [Value.string (bs y1), Value.string (bs y2)] ++ lbCells (S.drop S.length) = lbCells R := by rw [HR.out, lbCells_append, lbCells_append, ← List.append_assoc]; rfl
              have hRl : R.length = S.length + 1 + (0) := by rw [HR.out]; simp <;> omega
              have hS7 : LabsIs w7 (.slice va3 (S.length + 1 + (0)) vc3) R := labsIs_row (by rw [← hxs]; exact hown3) hRl (by rw [HR.out]; simp) (by omega) (fun x hx => by
                rw [HR.out] at hx
                rcases List.mem_append.1 hx with hx | hx
                · exact HSB.out x (List.mem_of_mem_take hx)
                · rcases List.mem_cons.1 hx with rfl | hx
                  · exact ⟨ln, lv⟩
                  · exact HSB.out x (List.mem_of_mem_drop hx))
              exact ⟨k + 1, by omega, by go_num, by rw [HRE.out]; exact hS7, BY.trans (hb7.mono BY.size)⟩
            case measure => simp [intOf]; omega
    · subst hkN
      rw [List.take_length] at hS ⊢
      have hS' : LabsIs wr (.slice sa (labF (labsOf (E.take i) ++ x.labels)).length sc) (labF (labsOf (E.take (i + 1)))) := by rw [HTI.out]; exact hS
      go_wp2_with fail
      go_roundw
      case rel => exact ⟨i + 1, by omega, by go_num, hS', hb⟩
      case measure => simp [intOf]; omega
  · subst hiN
    rw [List.take_length] at hS ⊢
    have hS' : LabsIs wr (.slice sa (labF (labsOf E)).length sc) (keysOf E) := by rw [← HF.out]; exact hS
    go_wp2_with fail
    go_ret
    exact ⟨_, rfl, hS', hb⟩
end Go.Proofs.YtpeahjocimhneaaGreatDoor
namespace Go.Proofs.YtpeahjocimhneaaGreatDoor
open Go.RowKit

theorem chk_nodup : ∀ (L : List Lb) (last : List UInt8), chkFrom last L = true → L.Nodup
  | [], _, _ => List.nodup_nil
  | x :: l, last, h => by
    unfold chkFrom at h
    simp only [Bool.and_eq_true] at h
    obtain ⟨_, _, _, _, h2⟩ := h
    refine List.nodup_cons.2 ⟨fun hm => ?_, chk_nodup l x.1 h2⟩
    have h3 := chk_above l x.1 h2 _ hm
    rw [bl_irrefl] at h3
    cases h3
theorem check_nodup {L : List Lb} (h : checkE L = 0) : L.Nodup := by
  unfold checkE at h
  cases hq : chkFrom [] L with
  | true => exact chk_nodup L [] hq
  | false => rw [hq] at h; simp at h
theorem val_append (S T : List (Lb × Nat)) (y : Lb) : valOf (S ++ T) y = valOf S y ++ valOf T y := by unfold valOf; rw [List.filter_append, List.map_append]
theorem val_map (i : Nat) (y : Lb) : ∀ (L : List Lb), L.Nodup → valOf (L.map fun z => (z, i)) y = if y ∈ L then [i] else []
  | [], _ => rfl
  | x :: l, h => by
    obtain ⟨h1, h2⟩ := List.nodup_cons.1 h
    have ih := val_map i y l h2
    rw [List.map_cons, show (x, i) :: l.map (fun z => (z, i)) = [(x, i)] ++ l.map (fun z => (z, i)) from rfl, val_append, ih]
    by_cases e : x = y
    · subst e
      simp [valOf, h1]
    · have e2 : ¬ y = x := fun h => e h.symm
      simp [valOf, e, e2]
theorem who_posts (E : List En) (y : Lb) (h : ∀ x ∈ E, checkE x.labels = 0) : whoN E y = postsOf E y := by
  have key : ∀ i, i ≤ E.length → (List.range i).filter (hasI E y) = valOf (prI E i) y := by
    intro i
    induction i with
    | zero => intro _; rfl
    | succ i ih =>
      intro hi
      have hil : i < E.length := by omega
      rw [who_snoc, ih (by omega), pr_succ E hil, val_append, val_map i y _ (check_nodup (h _ (List.getElem_mem hil)))]
      unfold hasI
      simp [List.getD_eq_getElem?_getD, hil]
  exact key E.length (Nat.le_refl _)
end Go.Proofs.YtpeahjocimhneaaGreatDoor
namespace Go.Proofs.YtpeahjocimhneaaGreatDoor
open Go.RowKit Go.Maps Go.WideMaps
attribute [local go_sem] bs_toList bs_size

set_option maxRecDepth 100000 in
set_option maxHeartbeats 2000000 in
theorem Rmore2_any (E : List En) (v : Value) (w : World) (h : EntsAt w v E) (hr : ∀ x ∈ E, rightB x = true) (hE : E.length ≤ 20) :
    Calls Tryz.prog 34 #[v, .int .i64 2] w fun e w' => e = .returned (.string (bs (moreI E 2))) ∧ Below w.heap.size w w' := by
  have h6 : ∀ x ∈ E, x.labels.length ≤ 6 := fun x hx => (labs_len (hr x hx)).1
  have hT : (textsOf E).length ≤ 9000 := by have := texts_len E h6; omega
  have hSl := sym_len h6 hE
  have HSb := Lib.hid (show ∀ s ∈ symI E, s.length ≤ 48 from fun s hs => texts_short hr s ((mem_symI E s).1 hs))
  have HHL := Lib.hid (head_len 2 E hr hE)
  have HMEM := Lib.hid (fun x (hx : x ∈ E) y (hy : y ∈ x.labels) => (show y.1 ∈ symI E ∧ y.2 ∈ symI E from ⟨(mem_symI E _).2 (texts_mem hx hy).1, (mem_symI E _).2 (texts_mem hx hy).2⟩))
  have HRT := Lib.hid hr
  have HH := Lib.hid (show headI E 2 = Num.small (symI E).length ++ (tabB 2 [] (symI E) ++ (Num.small E.length ++ ents2B 2 (symI E) zeroEn E)) from rfl)
  have HMO := Lib.hid (show moreI E 2 = headI E 2 from List.append_nil _)
  have qs := Lib.hid (RSymbols_any E v w h hT)
  have H := Lib.hid h
  obtain ⟨a, c, rfl, _, _, _, _⟩ := h
  clear h6 hT hr
  generalize symI E = SY at *
  generalize hHD : headI E 2 = HEAD at *
  clear hHD
  go_enter Tryz.func34, Tryz.ntmps34
  go_wp2_with fail
  refine qs.out.mono ?_
  rintro e w1 ⟨sv, rfl, hS, hb1⟩
  have HE1 := Lib.hid (H.out.below hb1)
  have HS1 := Lib.hid hS
  obtain ⟨_, _, eE, _, _, _, hx⟩ := id HE1.out
  obtain ⟨rfl, _, rfl⟩ := Value.slice.inj eE
  have HX := Lib.hid hx
  obtain ⟨sa, sc, rfl, _, hSl2, hsx⟩ := hS
  have HS := Lib.hid hsx
  have HB1 := Lib.hid hb1
  clear hx hsx eE qs H hSl2 hb1
  have q1 := Lib.hid (fun W => Rsmall_any SY.length W (by omega))
  have HA0 := Lib.hid (show Num.small SY.length ++ (tabB 2 [] (SY.drop 0) ++ (Num.small E.length ++ ents2B 2 SY zeroEn E)) = HEAD by rw [HH.out]; rfl)
  generalize Num.small SY.length = A0 at *
  clear HH
  go_wp2_with fail
  refine (q1.out _).mono ?_
  rintro e w2 ⟨rfl, hb2⟩
  clear q1
  go_wp2_with fail
  go_loopw [6, 8] (fun vs vi wr => ∃ (i : Nat) (last A : List UInt8), i ≤ SY.length ∧ vi = .int .i64 (i : Int) ∧ vs = .string (bs A) ∧ last.length ≤ 48 ∧ Below w1.heap.size w1 wr ∧ Hid (A ++ (tabB 2 last (SY.drop i) ++ (Num.small E.length ++ ents2B 2 SY zeroEn E)) = HEAD)) (fun _ vi _ => SY.length - (intOf vi).toNat)
  case atStart => exact ⟨0, [], _, Nat.zero_le _, rfl, rfl, Nat.zero_le _, hb2, HA0⟩
  clear hb2 HA0
  obtain ⟨i, last, A, hi, rfl, rfl, hll, hb, HA⟩ := hrel
  have hAl : A.length ≤ 100000 := by
    have h1 := congrArg List.length HA.out
    rw [List.length_append] at h1
    have := HHL.out
    omega
  rcases (show i < SY.length ∨ i = SY.length by omega) with hil | hiN
  · obtain ⟨_, sb, so, rfl, d0⟩ := HS.out i SY[i] (List.getElem?_eq_getElem hil)
    have e0 := (hb.cell (World.block_lt_of_cell? _ _ d0)).trans d0
    have hs48 := HSb.out SY[i] (List.getElem_mem hil)
    have HAT : tabB 2 last (SY.drop i) = (if (2 : Int) = 3 then Num.small (common last SY[i]) ++ Num.text (SY[i].drop (common last SY[i])) else Num.text SY[i]) ++ tabB 2 SY[i] (SY.drop (i + 1)) := by rw [List.drop_eq_getElem_cons hil, tabB]
    rw [HAT] at HA
    clear HAT d0
    generalize SY[i] = s at *
    rw [if_neg (by decide)] at HA
    have q1 := Lib.hid (fun W => ref_Text_any s W (by omega))
    have t1 : (Num.text s).length ≤ 100 := by rw [Num.text_len]; have := (Num.small_len s.length).2; omega
    have HA2 := Lib.hid (show (A ++ Num.text s) ++ (tabB 2 s (SY.drop (i + 1)) ++ (Num.small E.length ++ ents2B 2 SY zeroEn E)) = HEAD by rw [← HA.out]; simp [List.append_assoc])
    generalize Num.text s = ts at *
    have hadd : ∀ W, (Op.stringOp .add (bs A) (bs ts)).run Tryz.prog W = .ok (.string (bs (A ++ ts))) W := fun W => run_add_bs (P := Tryz.prog) A ts (by omega) W
    generalize A ++ ts = A1 at *
    clear HA
    go_wp2_with fail
    refine (q1.out _).mono ?_
    rintro e w6 ⟨rfl, hb6⟩
    have b6 := hb.trans (hb6.mono hb.size)
    clear hb hb6 q1
    go_wp2_with fail
    go_roundw
    case rel => exact ⟨i + 1, s, A1, by omega, by go_num, rfl, hs48, b6, HA2⟩
    case measure => simp [intOf]; omega
  · subst hiN
    rw [List.drop_length, show tabB 2 last [] = [] from rfl, List.nil_append] at HA
    have q1 := Lib.hid (fun W => Rsmall_any E.length W (by omega))
    have t1 := (Num.small_len E.length).2
    have HA1 := Lib.hid (show (A ++ Num.small E.length) ++ ents2B 2 SY zeroEn (E.drop 0) = HEAD by rw [← HA.out]; simp [List.append_assoc])
    generalize Num.small E.length = ne at *
    have hadd : ∀ W, (Op.stringOp .add (bs A) (bs ne)).run Tryz.prog W = .ok (.string (bs (A ++ ne))) W := fun W => run_add_bs (P := Tryz.prog) A ne (by omega) W
    generalize A ++ ne = A1 at *
    clear HA
    go_wp2_with fail
    refine (q1.out _).mono ?_
    rintro e w3 ⟨rfl, hb3⟩
    have b3 := hb.trans (hb3.mono hb.size)
    have b4 := b3.alloc b3.size (.cells #[.slice none 0 0, .int .i64 0, .int .i64 0, .int .i64 0] 70)
    have kH := Blk.new w3 70 #[.slice none 0 0, .int .i64 0, .int .i64 0, .int .i64 0]
    have hwH : w1.heap.size ≤ w3.heap.size := b3.size
    clear hb hb3 q1 b3
    generalize hH : w3.heap.size = AH at *
    go_wp2_with fail
    go_loopw [6, 11] (fun vs vi wr => ∃ (i : Nat) (A : List UInt8) (ah : En) (av : Value), i ≤ E.length ∧ vi = .int .i64 (i : Int) ∧ vs = .string (bs A) ∧ Blk wr AH 70 #[av, .int .i64 0, .int .i64 0, .int .i64 0] ∧ numsOk ah ∧ Below w1.heap.size w1 wr ∧ Hid (A ++ ents2B 2 SY ah (E.drop i) = HEAD)) (fun _ vi _ => E.length - (intOf vi).toNat)
    case atStart => exact ⟨0, _, zeroEn, _, Nat.zero_le _, rfl, rfl, kH, ⟨by simp [zeroEn], by simp [zeroEn], by simp [zeroEn], by simp [zeroEn], by simp [zeroEn], by simp [zeroEn]⟩, b4, HA1⟩
    clear kH b4 HA1 hH hAl hadd
    obtain ⟨i, A, ah, av, hi, rfl, rfl, kH, hah, hb, HA⟩ := hrel
    have hAl : A.length ≤ 100000 := by
      have h1 := congrArg List.length HA.out
      rw [List.length_append] at h1
      have := HHL.out
      omega
    rcases (show i < E.length ∨ i = E.length by omega) with hil | hiN
    · obtain ⟨hok, b, o, rfl, a', c', d0, hL, d1, d2, d3⟩ := HX.out i E[i] (List.getElem?_eq_getElem hil)
      have e0 := (hb.cell (World.block_lt_of_cell? _ _ d0)).trans d0
      have e1 := (hb.cell (World.block_lt_of_cell? _ _ d1)).trans d1
      have e2 := (hb.cell (World.block_lt_of_cell? _ _ d2)).trans d2
      have e3 := (hb.cell (World.block_lt_of_cell? _ _ d3)).trans d3
      have hrx := HRT.out E[i] (List.getElem_mem hil)
      obtain ⟨hl6, hl48⟩ := labs_len hrx
      have hnx := right_nums hrx
      have HSY := Lib.hid (fun y (hy : y ∈ E[i].labels) => HMEM.out _ (List.getElem_mem hil) y hy)
      have HAT : ents2B 2 SY ah (E.drop i) = ent2B 2 SY ah E[i] ++ ents2B 2 SY E[i] (E.drop (i + 1)) := by rw [List.drop_eq_getElem_cons hil, ents2B]
      rw [HAT] at HA
      clear HAT hrx hok d0 d1 d2 d3
      generalize E[i] = x at *
      have HE2 : ent2B 2 SY ah x = Num.small x.labels.length ++ (x.labels.flatMap (lab2B SY) ++ tail2B 2 ah x) := rfl
      rw [HE2] at HA
      generalize hR2 : ents2B 2 SY x (E.drop (i + 1)) = R2 at *
      have HR2 := Lib.hid hR2
      clear HE2 hR2
      have q1 := Lib.hid (fun W => Rsmall_any x.labels.length W (by omega))
      have t1 := (Num.small_len x.labels.length).2
      have HA1 := Lib.hid (show (A ++ Num.small x.labels.length) ++ (((x.labels.drop 0).flatMap (lab2B SY) ++ tail2B 2 ah x) ++ R2) = HEAD by rw [← HA.out]; simp [List.append_assoc])
      generalize Num.small x.labels.length = nl at *
      have hadd : ∀ W, (Op.stringOp .add (bs A) (bs nl)).run Tryz.prog W = .ok (.string (bs (A ++ nl))) W := fun W => run_add_bs (P := Tryz.prog) A nl (by omega) W
      generalize A ++ nl = A1 at *
      have kX := Blk.new wr 70 #[.slice a' x.labels.length c', .int .i64 x.last, .int .i64 x.off, .int .i64 x.len]
      have bX := one_alloc wr (.cells #[.slice a' x.labels.length c', .int .i64 x.last, .int .i64 x.off, .int .i64 x.len] 70)
      have kHX := kH.below bX kH.lt
      have b1 := hb.trans (bX.mono hb.size)
      have hXH : wr.heap.size ≠ AH := by have := kH.lt; omega
      have hXB : w1.heap.size ≤ wr.heap.size := hb.size
      clear HA hb bX kH
      obtain ⟨⟨c0, c1, c2, c3⟩, _⟩ := cells4 kX
      go_wp2_with fail
      refine (q1.out _).mono ?_
      rintro e w2 ⟨rfl, hb2⟩
      have b2 := b1.trans (hb2.mono b1.size)
      have kX2 := kX.below hb2 kX.lt
      have kH2 := kHX.below hb2 kHX.lt
      clear b1 hb2 q1 kX kHX c0 c1 c2 c3
      generalize wr.heap.size = XB at *
      obtain ⟨⟨c0, c1, c2, c3⟩, _⟩ := cells4 kX2
      go_wp2_with fail
      go_loopw [6, 13] (fun vs vk wq => ∃ (k : Nat) (A : List UInt8), k ≤ x.labels.length ∧ vk = .int .i64 (k : Int) ∧ vs = .string (bs A) ∧ Blk wq AH 70 #[av, .int .i64 0, .int .i64 0, .int .i64 0] ∧ Blk wq XB 70 #[.slice a' x.labels.length c', .int .i64 x.last, .int .i64 x.off, .int .i64 x.len] ∧ Below w1.heap.size w1 wq ∧ Hid (A ++ (((x.labels.drop k).flatMap (lab2B SY) ++ tail2B 2 ah x) ++ R2) = HEAD)) (fun _ vk _ => x.labels.length - (intOf vk).toNat)
      case atStart => exact ⟨0, _, Nat.zero_le _, rfl, rfl, kH2, kX2, b2, HA1⟩
      clear kH2 kX2 b2 HA1 c0 c1 c2 c3 hadd hAl e0 e1 e2 e3
      obtain ⟨k, A, hk, rfl, rfl, kH, kX, hb, HA⟩ := hrel
      have hAl : A.length ≤ 100000 := by
        have h1 := congrArg List.length HA.out
        rw [List.length_append] at h1
        have := HHL.out
        omega
      obtain ⟨⟨c0, c1, c2, c3⟩, _⟩ := cells4 kX
      rcases (show k < x.labels.length ∨ k = x.labels.length by omega) with hkl | hkN
      · obtain ⟨_, _, eL, _, hLx⟩ := id hL
        obtain ⟨rfl, _, rfl⟩ := Value.slice.inj eL
        obtain ⟨_, _, b3, o3, rfl, g0, g1⟩ := hLx k x.labels[k] (List.getElem?_eq_getElem hkl)
        have x0 := (hb.cell (World.block_lt_of_cell? _ _ g0)).trans g0
        have x1 := (hb.cell (World.block_lt_of_cell? _ _ g1)).trans g1
        have hmem := HSY.out _ (List.getElem_mem hkl)
        have h48 := hl48 _ (List.getElem_mem hkl)
        rw [List.drop_eq_getElem_cons hkl, List.flatMap_cons] at HA
        clear g0 g1 hLx eL
        generalize x.labels[k] = y at *
        have hp1 := (place_at hmem.1).1
        have hp2 := (place_at hmem.2).1
        have HMY := Lib.hid hmem
        have qp1 := Lib.hid (fun W (hW : GrowR _ W) => Rplace_any SY _ y.1 W (HS1.out.below (hb.trans (Below.mono hW hb.size))) HMY.out.1)
        have qp2 := Lib.hid (fun W (hW : GrowR _ W) => Rplace_any SY _ y.2 W (HS1.out.below (hb.trans (Below.mono hW hb.size))) HMY.out.2)
        have q1 := Lib.hid (fun W => Rsmall_any (placeI SY y.1) W (by omega))
        have q2 := Lib.hid (fun W => Rsmall_any (placeI SY y.2) W (by omega))
        have t1 := (Num.small_len (placeI SY y.1)).2
        have t2 := (Num.small_len (placeI SY y.2)).2
        have hl2 : lab2B SY y = Num.small (placeI SY y.1) ++ Num.small (placeI SY y.2) := rfl
        rw [hl2] at HA
        generalize Num.small (placeI SY y.1) = y1 at *
        generalize Num.small (placeI SY y.2) = y2 at *
        generalize placeI SY y.1 = p1 at *
        generalize placeI SY y.2 = p2 at *
        have hadd1 : ∀ W, (Op.stringOp .add (bs A) (bs y1)).run Tryz.prog W = .ok (.string (bs (A ++ y1))) W := fun W => run_add_bs (P := Tryz.prog) A y1 (by omega) W
        have hadd2 : ∀ W, (Op.stringOp .add (bs (A ++ y1)) (bs y2)).run Tryz.prog W = .ok (.string (bs (A ++ y1 ++ y2))) W := fun W => run_add_bs (P := Tryz.prog) (A ++ y1) y2 (by rw [List.length_append]; omega) W
        have HA2 := Lib.hid (show (A ++ y1 ++ y2) ++ (((x.labels.drop (k + 1)).flatMap (lab2B SY) ++ tail2B 2 ah x) ++ R2) = HEAD by rw [← HA.out]; simp [List.append_assoc])
        generalize A ++ y1 ++ y2 = A2 at *
        generalize A ++ y1 = A1 at *
        have X0 := grow_cell c0
        have Y0 := grow_cell x0
        have Y1 := grow_cell x1
        clear HA hl2 hmem h48 c1 c2 c3
        go_wp2_with fail
        refine wp_region_at (R := GrowR) (by kernel_rfl) (by kernel_rfl) ?_
        (try dsimp only)
        (refine lex_one (by kernel_rfl) (by kernel_rfl) (by kernel_rfl) (fun K hK => ?_); go_big_quiet_step (fail); refine wpQuiet_nil (hK _ ?_); clear hK K); (refine lex_one (by kernel_rfl) (by kernel_rfl) (by kernel_rfl) (fun K hK => ?_); go_big_quiet_step (fail); refine wpQuiet_nil (hK _ ?_); clear hK K); (refine lex_one (by kernel_rfl) (by kernel_rfl) (by kernel_rfl) (fun K hK => ?_); go_big_quiet_step (fail); refine wpQuiet_nil (hK _ ?_); clear hK K); (refine lex_one (by kernel_rfl) (by kernel_rfl) (by kernel_rfl) (fun K hK => ?_); go_big_quiet_step (fail); refine wpQuiet_nil (hK _ ?_); clear hK K); (refine lex_one (by kernel_rfl) (by kernel_rfl) (by kernel_rfl) (fun K hK => ?_); go_big_quiet_step (fail); refine wpQuiet_nil (hK _ ?_); clear hK K); (refine lex_one (by kernel_rfl) (by kernel_rfl) (by kernel_rfl) (fun K hK => ?_); go_big_quiet_step (fail); refine wpQuiet_nil (hK _ ?_); clear hK K); (refine lex_one (by kernel_rfl) (by kernel_rfl) (by kernel_rfl) (fun K hK => ?_); go_big_quiet_step (fail); refine wpQuiet_nil (hK _ ?_); clear hK K); (refine lex_one (by kernel_rfl) (by kernel_rfl) (by kernel_rfl) (fun K hK => ?_); go_big_quiet_step (fail); refine wpQuiet_nil (hK _ ?_); clear hK K)
        (refine lex_call (f := 76) (args := #[.slice sa SY.length sc, .string (bs y.1)]) (v := .int .i64 (p1 : Int)) (by kernel_rfl) (fun _ _ h => by cases h) (by kernel_rfl) (by kernel_rfl) (fun _ => by go_simp) (fun W hW => qp1.out W hW) (lex_put (type := 0) (pos := "") (fun K hK => ?_)); go_big_quiet_step (fail); refine wpQuiet_nil (hK _ ?_); clear hK K)
        (refine lex_call (f := 73) (args := #[.int .i64 (p1 : Int)]) (v := .string (bs y1)) (by kernel_rfl) (fun _ _ h => by cases h) (by kernel_rfl) (by kernel_rfl) (fun _ => by go_simp) (fun W hW => q1.out W) (lex_put (type := 0) (pos := "") (fun K hK => ?_)); go_big_quiet_step (fail); refine wpQuiet_nil (hK _ ?_); clear hK K)
        (refine lex_one (by kernel_rfl) (by kernel_rfl) (by kernel_rfl) (fun K hK => ?_); go_big_quiet_step (fail); refine wpQuiet_nil (hK _ ?_); clear hK K); (refine lex_one (by kernel_rfl) (by kernel_rfl) (by kernel_rfl) (fun K hK => ?_); go_big_quiet_step (fail); refine wpQuiet_nil (hK _ ?_); clear hK K); (refine lex_one (by kernel_rfl) (by kernel_rfl) (by kernel_rfl) (fun K hK => ?_); go_big_quiet_step (fail); refine wpQuiet_nil (hK _ ?_); clear hK K); (refine lex_one (by kernel_rfl) (by kernel_rfl) (by kernel_rfl) (fun K hK => ?_); go_big_quiet_step (fail); refine wpQuiet_nil (hK _ ?_); clear hK K); (refine lex_one (by kernel_rfl) (by kernel_rfl) (by kernel_rfl) (fun K hK => ?_); go_big_quiet_step (fail); refine wpQuiet_nil (hK _ ?_); clear hK K); (refine lex_one (by kernel_rfl) (by kernel_rfl) (by kernel_rfl) (fun K hK => ?_); go_big_quiet_step (fail); refine wpQuiet_nil (hK _ ?_); clear hK K); (refine lex_one (by kernel_rfl) (by kernel_rfl) (by kernel_rfl) (fun K hK => ?_); go_big_quiet_step (fail); refine wpQuiet_nil (hK _ ?_); clear hK K); (refine lex_one (by kernel_rfl) (by kernel_rfl) (by kernel_rfl) (fun K hK => ?_); go_big_quiet_step (fail); refine wpQuiet_nil (hK _ ?_); clear hK K)
        (refine lex_call (f := 76) (args := #[.slice sa SY.length sc, .string (bs y.2)]) (v := .int .i64 (p2 : Int)) (by kernel_rfl) (fun _ _ h => by cases h) (by kernel_rfl) (by kernel_rfl) (fun _ => by go_simp) (fun W hW => qp2.out W hW) (lex_put (type := 0) (pos := "") (fun K hK => ?_)); go_big_quiet_step (fail); refine wpQuiet_nil (hK _ ?_); clear hK K)
        (refine lex_call (f := 73) (args := #[.int .i64 (p2 : Int)]) (v := .string (bs y2)) (by kernel_rfl) (fun _ _ h => by cases h) (by kernel_rfl) (by kernel_rfl) (fun _ => by go_simp) (fun W hW => q2.out W) (lex_put (type := 0) (pos := "") (fun K hK => ?_)); go_big_quiet_step (fail); refine wpQuiet_nil (hK _ ?_); clear hK K)
        (refine lex_one (by kernel_rfl) (by kernel_rfl) (by kernel_rfl) (fun K hK => ?_); go_big_quiet_step (fail); refine wpQuiet_nil (hK _ ?_); clear hK K); (refine lex_one (by kernel_rfl) (by kernel_rfl) (by kernel_rfl) (fun K hK => ?_); go_big_quiet_step (fail); refine wpQuiet_nil (hK _ ?_); clear hK K)
        refine lex_nil (by kernel_rfl) (by kernel_rfl) (by kernel_rfl) ?_
        intro w5 hb5
        simp only [hideAll]
        have b5 := hb.trans (Below.mono hb5 hb.size)
        have kH5 := Blk.below kH hb5 kH.lt
        have kX5 := Blk.below kX hb5 kX.lt
        go_wp2_with fail
        go_roundw
        case rel => exact ⟨k + 1, _, by omega, by go_num, rfl, kH5, kX5, b5, HA2⟩
        case measure => simp [intOf]; omega
      · subst hkN
        rw [List.drop_length, List.flatMap_nil, List.nil_append] at HA
        obtain ⟨n1, n2, n3, n4, n5, n6⟩ := hnx
        obtain ⟨h1, h2, h3, h4, h5, h6⟩ := hah
        obtain ⟨⟨d0, d1, d2, d3⟩, f0, f1, f2, f3⟩ := cells4 kH
        have g1 := grow_cell c1
        have g2 := grow_cell c2
        have g3 := grow_cell c3
        have q1 := Lib.hid (fun W => ref_Small_any (u64N x.last : Int) W (by omega) (by have := u64N_lt x.last; omega))
        rw [Int.toNat_natCast] at q1
        have u2 := (u64N_of x.off n3 (by omega)).1
        have u3 := (u64N_of x.len n5 (by omega)).1
        have q2 := Lib.hid (fun W => Rsmall_any (u64N x.off) W (by omega))
        have q3 := Lib.hid (fun W => Rsmall_any (u64N x.len) W (by omega))
        rw [u2] at q2
        rw [u3] at q3
        have hu1 := u64N_wrap x.last
        have ht2 : tail2B 2 ah x = (Num.small (u64N x.last) ++ Num.small (u64N x.off)) ++ Num.small (u64N x.len) := rfl
        rw [ht2] at HA
        have t1 := (Num.small_len (u64N x.last)).2
        have t2 := (Num.small_len (u64N x.off)).2
        have t3 := (Num.small_len (u64N x.len)).2
        clear u2 u3
        generalize Num.small (u64N x.last) = y1 at *
        generalize Num.small (u64N x.off) = y2 at *
        generalize Num.small (u64N x.len) = y3 at *
        generalize u64N x.last = p1 at *
        have HA2 := Lib.hid (show (A ++ y1 ++ y2 ++ y3) ++ ents2B 2 SY x (E.drop (i + 1)) = HEAD by rw [HR2.out, ← HA.out]; simp [List.append_assoc])
        have hadd1 : ∀ W, (Op.stringOp .add (bs A) (bs y1)).run Tryz.prog W = .ok (.string (bs (A ++ y1))) W := fun W => run_add_bs (P := Tryz.prog) A y1 (by omega) W
        have hadd2 : ∀ W, (Op.stringOp .add (bs (A ++ y1)) (bs y2)).run Tryz.prog W = .ok (.string (bs (A ++ y1 ++ y2))) W := fun W => run_add_bs (P := Tryz.prog) (A ++ y1) y2 (by rw [List.length_append]; omega) W
        have hadd3 : ∀ W, (Op.stringOp .add (bs (A ++ y1 ++ y2)) (bs y3)).run Tryz.prog W = .ok (.string (bs (A ++ y1 ++ y2 ++ y3))) W := fun W => run_add_bs (P := Tryz.prog) (A ++ y1 ++ y2) y3 (by rw [List.length_append, List.length_append]; omega) W
        generalize A ++ y1 ++ y2 ++ y3 = A3 at *
        generalize A ++ y1 ++ y2 = A2 at *
        generalize A ++ y1 = A1 at *
        clear HA ht2 d0 d1 d2 d3 f0 f1 f2 f3 hL hl48
        go_wp2_with fail
        refine wp_region_at (R := GrowR) (by kernel_rfl) (by kernel_rfl) ?_
        (try dsimp only)
        (refine lex_one (by kernel_rfl) (by kernel_rfl) (by kernel_rfl) (fun K hK => ?_); go_big_quiet_step (fail); refine wpQuiet_nil (hK _ ?_); clear hK K); (refine lex_one (by kernel_rfl) (by kernel_rfl) (by kernel_rfl) (fun K hK => ?_); go_big_quiet_step (fail); refine wpQuiet_nil (hK _ ?_); clear hK K); (refine lex_one (by kernel_rfl) (by kernel_rfl) (by kernel_rfl) (fun K hK => ?_); go_big_quiet_step (fail); refine wpQuiet_nil (hK _ ?_); clear hK K); (refine lex_one (by kernel_rfl) (by kernel_rfl) (by kernel_rfl) (fun K hK => ?_); go_big_quiet_step (fail); refine wpQuiet_nil (hK _ ?_); clear hK K)
        (refine lex_call (f := 77) (args := #[.int .u64 (p1 : Int)]) (v := .string (bs y1)) (by kernel_rfl) (fun _ _ h => by cases h) (by kernel_rfl) (by kernel_rfl) (fun _ => by go_simp) (fun W hW => q1.out W) (lex_put (type := 0) (pos := "") (fun K hK => ?_)); go_big_quiet_step (fail); refine wpQuiet_nil (hK _ ?_); clear hK K)
        (refine lex_one (by kernel_rfl) (by kernel_rfl) (by kernel_rfl) (fun K hK => ?_); go_big_quiet_step (fail); refine wpQuiet_nil (hK _ ?_); clear hK K); (refine lex_one (by kernel_rfl) (by kernel_rfl) (by kernel_rfl) (fun K hK => ?_); go_big_quiet_step (fail); refine wpQuiet_nil (hK _ ?_); clear hK K); (refine lex_one (by kernel_rfl) (by kernel_rfl) (by kernel_rfl) (fun K hK => ?_); go_big_quiet_step (fail); refine wpQuiet_nil (hK _ ?_); clear hK K)
        (refine lex_call (f := 73) (args := #[.int .i64 x.off]) (v := .string (bs y2)) (by kernel_rfl) (fun _ _ h => by cases h) (by kernel_rfl) (by kernel_rfl) (fun _ => by go_simp) (fun W hW => q2.out W) (lex_put (type := 0) (pos := "") (fun K hK => ?_)); go_big_quiet_step (fail); refine wpQuiet_nil (hK _ ?_); clear hK K)
        (refine lex_one (by kernel_rfl) (by kernel_rfl) (by kernel_rfl) (fun K hK => ?_); go_big_quiet_step (fail); refine wpQuiet_nil (hK _ ?_); clear hK K); (refine lex_one (by kernel_rfl) (by kernel_rfl) (by kernel_rfl) (fun K hK => ?_); go_big_quiet_step (fail); refine wpQuiet_nil (hK _ ?_); clear hK K); (refine lex_one (by kernel_rfl) (by kernel_rfl) (by kernel_rfl) (fun K hK => ?_); go_big_quiet_step (fail); refine wpQuiet_nil (hK _ ?_); clear hK K)
        (refine lex_call (f := 73) (args := #[.int .i64 x.len]) (v := .string (bs y3)) (by kernel_rfl) (fun _ _ h => by cases h) (by kernel_rfl) (by kernel_rfl) (fun _ => by go_simp) (fun W hW => q3.out W) (lex_put (type := 0) (pos := "") (fun K hK => ?_)); go_big_quiet_step (fail); refine wpQuiet_nil (hK _ ?_); clear hK K)
        (refine lex_one (by kernel_rfl) (by kernel_rfl) (by kernel_rfl) (fun K hK => ?_); go_big_quiet_step (fail); refine wpQuiet_nil (hK _ ?_); clear hK K); (refine lex_one (by kernel_rfl) (by kernel_rfl) (by kernel_rfl) (fun K hK => ?_); go_big_quiet_step (fail); refine wpQuiet_nil (hK _ ?_); clear hK K)
        refine lex_nil (by kernel_rfl) (by kernel_rfl) (by kernel_rfl) ?_
        intro w5 hb5
        simp only [hideAll]
        have b5 := hb.trans (Below.mono hb5 hb.size)
        have kH5 := Blk.below kH hb5 kH.lt
        go_wp2_with fail
        go_roundw
        case rel => exact ⟨i + 1, _, x, av, by omega, by go_num, rfl, kH5, ⟨n1, n2, n3, n4, n5, n6⟩, b5, HA2⟩
        case measure => simp [intOf]; omega
    · subst hiN
      rw [List.drop_length, show ents2B 2 SY ah [] = [] from rfl, List.append_nil] at HA
      obtain rfl := HA.out
      go_wp2_with fail
      go_ret
      exact ⟨by rw [HMO.out]; rfl, HB1.out.trans (Below.mono hb HB1.out.size)⟩
end Go.Proofs.YtpeahjocimhneaaGreatDoor
namespace Go.Proofs.YtpeahjocimhneaaGreatDoor
open Go.RowKit Go.Maps Go.WideMaps
attribute [local go_sem] bs_toList bs_size

set_option maxRecDepth 100000 in
set_option maxHeartbeats 2000000 in
theorem Rmore3_any (E : List En) (v : Value) (w : World) (h : EntsAt w v E) (hr : ∀ x ∈ E, rightB x = true) (hE : E.length ≤ 20) :
    Calls Tryz.prog 34 #[v, .int .i64 3] w fun e w' => e = .returned (.string (bs (moreI E 3))) ∧ Below w.heap.size w w' := by
  have h6 : ∀ x ∈ E, x.labels.length ≤ 6 := fun x hx => (labs_len (hr x hx)).1
  have hT : (textsOf E).length ≤ 9000 := by have := texts_len E h6; omega
  have hSl := sym_len h6 hE
  have HSb := Lib.hid (show ∀ s ∈ symI E, s.length ≤ 48 from fun s hs => texts_short hr s ((mem_symI E s).1 hs))
  have HHL := Lib.hid (head_len 3 E hr hE)
  have HMEM := Lib.hid (fun x (hx : x ∈ E) y (hy : y ∈ x.labels) => (show y.1 ∈ symI E ∧ y.2 ∈ symI E from ⟨(mem_symI E _).2 (texts_mem hx hy).1, (mem_symI E _).2 (texts_mem hx hy).2⟩))
  have HRT := Lib.hid hr
  have HH := Lib.hid (show headI E 3 = Num.small (symI E).length ++ (tabB 3 [] (symI E) ++ (Num.small E.length ++ ents2B 3 (symI E) zeroEn E)) from rfl)
  have HMO := Lib.hid (show moreI E 3 = headI E 3 ++ (keysOf E).flatMap (chunkP (pairsI E)) from rfl)
  have hpr := pairs_len E h6
  have hkl := keys_len E
  have hLT : (labsOf E).length ≤ 9000 := by
    have := flat_le (fun x : En => x.labels) 6 E h6
    unfold labsOf
    omega
  have HCK := Lib.hid (fun y => who_posts E y fun x hx => (right_parts (hr x hx)).1)
  have HSO := Lib.hid (post_sorted E)
  have QL := Lib.hid (fun W u (hW : EntsAt W u E) => Rlabels_any E u W hW hLT)
  have qs := Lib.hid (RSymbols_any E v w h hT)
  have H := Lib.hid h
  obtain ⟨a, c, rfl, _, _, _, _⟩ := h
  clear h6 hT hr
  generalize symI E = SY at *
  generalize hHD : headI E 3 = HEAD at *
  clear hHD
  go_enter Tryz.func34, Tryz.ntmps34
  go_wp2_with fail
  refine qs.out.mono ?_
  rintro e w1 ⟨sv, rfl, hS, hb1⟩
  have HE1 := Lib.hid (H.out.below hb1)
  have HS1 := Lib.hid hS
  obtain ⟨_, _, eE, _, _, _, hx⟩ := id HE1.out
  obtain ⟨rfl, _, rfl⟩ := Value.slice.inj eE
  have HX := Lib.hid hx
  obtain ⟨sa, sc, rfl, _, hSl2, hsx⟩ := hS
  have HS := Lib.hid hsx
  have HB1 := Lib.hid hb1
  clear hx hsx eE qs H hSl2 hb1
  have q1 := Lib.hid (fun W => Rsmall_any SY.length W (by omega))
  have HA0 := Lib.hid (show Num.small SY.length ++ (tabB 3 [] (SY.drop 0) ++ (Num.small E.length ++ ents2B 3 SY zeroEn E)) = HEAD by rw [HH.out]; rfl)
  generalize Num.small SY.length = A0 at *
  clear HH
  go_wp2_with fail
  refine (q1.out _).mono ?_
  rintro e w2 ⟨rfl, hb2⟩
  clear q1
  go_wp2_with fail
  go_loopw [6, 7, 8] (fun vs vl vi wr => ∃ (i : Nat) (last A : List UInt8), i ≤ SY.length ∧ vi = .int .i64 (i : Int) ∧ vl = .string (bs last) ∧ vs = .string (bs A) ∧ last.length ≤ 48 ∧ Below w1.heap.size w1 wr ∧ Hid (A ++ (tabB 3 last (SY.drop i) ++ (Num.small E.length ++ ents2B 3 SY zeroEn E)) = HEAD)) (fun _ _ vi _ => SY.length - (intOf vi).toNat)
  case atStart => exact ⟨0, [], _, Nat.zero_le _, rfl, rfl, rfl, Nat.zero_le _, hb2, HA0⟩
  clear hb2 HA0
  obtain ⟨i, last, A, hi, rfl, rfl, rfl, hll, hb, HA⟩ := hrel
  have hAl : A.length ≤ 100000 := by
    have h1 := congrArg List.length HA.out
    rw [List.length_append] at h1
    have := HHL.out
    omega
  rcases (show i < SY.length ∨ i = SY.length by omega) with hil | hiN
  · obtain ⟨_, sb, so, rfl, d0⟩ := HS.out i SY[i] (List.getElem?_eq_getElem hil)
    have e0 := (hb.cell (World.block_lt_of_cell? _ _ d0)).trans d0
    have hs48 := HSb.out SY[i] (List.getElem_mem hil)
    have HAT : tabB 3 last (SY.drop i) = (if (3 : Int) = 3 then Num.small (common last SY[i]) ++ Num.text (SY[i].drop (common last SY[i])) else Num.text SY[i]) ++ tabB 3 SY[i] (SY.drop (i + 1)) := by rw [List.drop_eq_getElem_cons hil, tabB]
    rw [HAT] at HA
    clear HAT d0
    generalize SY[i] = s at *
    rw [if_pos rfl] at HA
    obtain ⟨cl1, cl2, _⟩ := common_le last s
    have qc := Lib.hid (fun W => Rcommon_any last s W (by omega))
    have qn := Lib.hid (fun W => Rsmall_any (common last s) W (by omega))
    have hx0 : (bs s).extract (common last s) s.length = bs (s.drop (common last s)) := by rw [bs_extract, List.take_of_length_le (by simp)]
    have q1 := Lib.hid (fun W => ref_Text_any (s.drop (common last s)) W (by rw [List.length_drop]; omega))
    have t1 : (Num.text (s.drop (common last s))).length ≤ 100 := by rw [Num.text_len, List.length_drop]; have := (Num.small_len (s.length - common last s)).2; omega
    have t2 := (Num.small_len (common last s)).2
    have HA2 := Lib.hid (show (A ++ Num.small (common last s) ++ Num.text (s.drop (common last s))) ++ (tabB 3 s (SY.drop (i + 1)) ++ (Num.small E.length ++ ents2B 3 SY zeroEn E)) = HEAD by rw [← HA.out]; simp [List.append_assoc])
    generalize Num.text (s.drop (common last s)) = ts at *
    generalize Num.small (common last s) = tn at *
    generalize hsd : s.drop (common last s) = sd at *
    generalize common last s = cm at *
    have hz := bs_size s
    have hadd1 : ∀ W, (Op.stringOp .add (bs A) (bs tn)).run Tryz.prog W = .ok (.string (bs (A ++ tn))) W := fun W => run_add_bs (P := Tryz.prog) A tn (by omega) W
    have hadd2 : ∀ W, (Op.stringOp .add (bs (A ++ tn)) (bs ts)).run Tryz.prog W = .ok (.string (bs (A ++ tn ++ ts))) W := fun W => run_add_bs (P := Tryz.prog) (A ++ tn) ts (by rw [List.length_append]; omega) W
    generalize A ++ tn ++ ts = A2 at *
    generalize A ++ tn = A1 at *
    clear HA hsd
    go_wp2_with fail
    refine (qc.out _).mono ?_
    rintro e w3 ⟨rfl, hb3⟩
    have b3 := hb.trans (hb3.mono hb.size)
    have y0 := (hb3.cell (World.block_lt_of_cell? _ _ e0)).trans e0
    have Y0 := grow_cell y0
    clear hb hb3 qc e0
    go_wp2_with fail
    refine wp_region_at (R := GrowR) (by kernel_rfl) (by kernel_rfl) ?_
    (try dsimp only)
    (refine lex_one (by kernel_rfl) (by kernel_rfl) (by kernel_rfl) (fun K hK => ?_); go_big_quiet_step (fail); refine wpQuiet_nil (hK _ ?_); clear hK K); (refine lex_one (by kernel_rfl) (by kernel_rfl) (by kernel_rfl) (fun K hK => ?_); go_big_quiet_step (fail); refine wpQuiet_nil (hK _ ?_); clear hK K)
    (refine lex_call (f := 73) (args := #[.int .i64 (cm : Int)]) (v := .string (bs tn)) (by kernel_rfl) (fun _ _ h => by cases h) (by kernel_rfl) (by kernel_rfl) (fun _ => by go_simp) (fun W hW => qn.out W) (lex_put (type := 0) (pos := "") (fun K hK => ?_)); go_big_quiet_step (fail); refine wpQuiet_nil (hK _ ?_); clear hK K)
    (refine lex_one (by kernel_rfl) (by kernel_rfl) (by kernel_rfl) (fun K hK => ?_); go_big_quiet_step (fail); refine wpQuiet_nil (hK _ ?_); clear hK K); (refine lex_one (by kernel_rfl) (by kernel_rfl) (by kernel_rfl) (fun K hK => ?_); go_big_quiet_step (fail); refine wpQuiet_nil (hK _ ?_); clear hK K); (refine lex_one (by kernel_rfl) (by kernel_rfl) (by kernel_rfl) (fun K hK => ?_); go_big_quiet_step (fail); refine wpQuiet_nil (hK _ ?_); clear hK K); (refine lex_one (by kernel_rfl) (by kernel_rfl) (by kernel_rfl) (fun K hK => ?_); go_big_quiet_step (fail); refine wpQuiet_nil (hK _ ?_); clear hK K); (refine lex_one (by kernel_rfl) (by kernel_rfl) (by kernel_rfl) (fun K hK => ?_); go_big_quiet_step (fail); refine wpQuiet_nil (hK _ ?_); clear hK K); (refine lex_one (by kernel_rfl) (by kernel_rfl) (by kernel_rfl) (fun K hK => ?_); go_big_quiet_step (fail); refine wpQuiet_nil (hK _ ?_); clear hK K)
    (refine lex_val (v := .string (bs sd)) (by kernel_rfl) (fun _ _ h => by cases h) (by kernel_rfl) (by kernel_rfl) (fun _ _ => by go_simp) (lex_put (type := 0) (pos := "") (fun K hK => ?_)); go_big_quiet_step (fail); refine wpQuiet_nil (hK _ ?_); clear hK K)
    (refine lex_call (f := 74) (args := #[.string (bs sd)]) (v := .string (bs ts)) (by kernel_rfl) (fun _ _ h => by cases h) (by kernel_rfl) (by kernel_rfl) (fun _ => by go_simp) (fun W hW => q1.out W) (lex_put (type := 0) (pos := "") (fun K hK => ?_)); go_big_quiet_step (fail); refine wpQuiet_nil (hK _ ?_); clear hK K)
    (refine lex_one (by kernel_rfl) (by kernel_rfl) (by kernel_rfl) (fun K hK => ?_); go_big_quiet_step (fail); refine wpQuiet_nil (hK _ ?_); clear hK K); (refine lex_one (by kernel_rfl) (by kernel_rfl) (by kernel_rfl) (fun K hK => ?_); go_big_quiet_step (fail); refine wpQuiet_nil (hK _ ?_); clear hK K)
    refine lex_nil (by kernel_rfl) (by kernel_rfl) (by kernel_rfl) ?_
    intro w5 hb5
    simp only [hideAll]
    have b5 := b3.trans (Below.mono hb5 b3.size)
    have y5 := (Below.cell hb5 (World.block_lt_of_cell? _ _ y0)).trans y0
    go_wp2_with fail
    go_roundw
    case rel => exact ⟨i + 1, s, A2, by omega, by go_num, rfl, rfl, hs48, b5, HA2⟩
    case measure => simp [intOf]; omega
  · subst hiN
    rw [List.drop_length, show tabB 3 last [] = [] from rfl, List.nil_append] at HA
    have q1 := Lib.hid (fun W => Rsmall_any E.length W (by omega))
    have t1 := (Num.small_len E.length).2
    have HA1 := Lib.hid (show (A ++ Num.small E.length) ++ ents2B 3 SY zeroEn (E.drop 0) = HEAD by rw [← HA.out]; simp [List.append_assoc])
    generalize Num.small E.length = ne at *
    have hadd : ∀ W, (Op.stringOp .add (bs A) (bs ne)).run Tryz.prog W = .ok (.string (bs (A ++ ne))) W := fun W => run_add_bs (P := Tryz.prog) A ne (by omega) W
    generalize A ++ ne = A1 at *
    clear HA
    go_wp2_with fail
    refine (q1.out _).mono ?_
    rintro e w3 ⟨rfl, hb3⟩
    have b3 := hb.trans (hb3.mono hb.size)
    have b4 := b3.alloc b3.size (.cells #[.slice none 0 0, .int .i64 0, .int .i64 0, .int .i64 0] 70)
    have kH := Blk.new w3 70 #[.slice none 0 0, .int .i64 0, .int .i64 0, .int .i64 0]
    have hwH : w1.heap.size ≤ w3.heap.size := b3.size
    clear hb hb3 q1 b3
    generalize hH : w3.heap.size = AH at *
    go_wp2_with fail
    go_loopw [6, 11] (fun vs vi wr => ∃ (i : Nat) (A : List UInt8) (ah : En) (av : Value), i ≤ E.length ∧ vi = .int .i64 (i : Int) ∧ vs = .string (bs A) ∧ Blk wr AH 70 #[av, .int .i64 ah.last, .int .i64 ah.off, .int .i64 ah.len] ∧ numsOk ah ∧ Below w1.heap.size w1 wr ∧ Hid (A ++ ents2B 3 SY ah (E.drop i) = HEAD)) (fun _ vi _ => E.length - (intOf vi).toNat)
    case atStart => exact ⟨0, _, zeroEn, _, Nat.zero_le _, rfl, rfl, kH, ⟨by simp [zeroEn], by simp [zeroEn], by simp [zeroEn], by simp [zeroEn], by simp [zeroEn], by simp [zeroEn]⟩, b4, HA1⟩
    clear kH b4 HA1 hH hAl hadd
    obtain ⟨i, A, ah, av, hi, rfl, rfl, kH, hah, hb, HA⟩ := hrel
    have hAl : A.length ≤ 100000 := by
      have h1 := congrArg List.length HA.out
      rw [List.length_append] at h1
      have := HHL.out
      omega
    rcases (show i < E.length ∨ i = E.length by omega) with hil | hiN
    · obtain ⟨hok, b, o, rfl, a', c', d0, hL, d1, d2, d3⟩ := HX.out i E[i] (List.getElem?_eq_getElem hil)
      have e0 := (hb.cell (World.block_lt_of_cell? _ _ d0)).trans d0
      have e1 := (hb.cell (World.block_lt_of_cell? _ _ d1)).trans d1
      have e2 := (hb.cell (World.block_lt_of_cell? _ _ d2)).trans d2
      have e3 := (hb.cell (World.block_lt_of_cell? _ _ d3)).trans d3
      have hrx := HRT.out E[i] (List.getElem_mem hil)
      obtain ⟨hl6, hl48⟩ := labs_len hrx
      have hnx := right_nums hrx
      have HSY := Lib.hid (fun y (hy : y ∈ E[i].labels) => HMEM.out _ (List.getElem_mem hil) y hy)
      have HAT : ents2B 3 SY ah (E.drop i) = ent2B 3 SY ah E[i] ++ ents2B 3 SY E[i] (E.drop (i + 1)) := by rw [List.drop_eq_getElem_cons hil, ents2B]
      rw [HAT] at HA
      clear HAT hrx hok d0 d1 d2 d3
      generalize E[i] = x at *
      have HE2 : ent2B 3 SY ah x = Num.small x.labels.length ++ (x.labels.flatMap (lab2B SY) ++ tail2B 3 ah x) := rfl
      rw [HE2] at HA
      generalize hR2 : ents2B 3 SY x (E.drop (i + 1)) = R2 at *
      have HR2 := Lib.hid hR2
      clear HE2 hR2
      have q1 := Lib.hid (fun W => Rsmall_any x.labels.length W (by omega))
      have t1 := (Num.small_len x.labels.length).2
      have HA1 := Lib.hid (show (A ++ Num.small x.labels.length) ++ (((x.labels.drop 0).flatMap (lab2B SY) ++ tail2B 3 ah x) ++ R2) = HEAD by rw [← HA.out]; simp [List.append_assoc])
      generalize Num.small x.labels.length = nl at *
      have hadd : ∀ W, (Op.stringOp .add (bs A) (bs nl)).run Tryz.prog W = .ok (.string (bs (A ++ nl))) W := fun W => run_add_bs (P := Tryz.prog) A nl (by omega) W
      generalize A ++ nl = A1 at *
      have kX := Blk.new wr 70 #[.slice a' x.labels.length c', .int .i64 x.last, .int .i64 x.off, .int .i64 x.len]
      have bX := one_alloc wr (.cells #[.slice a' x.labels.length c', .int .i64 x.last, .int .i64 x.off, .int .i64 x.len] 70)
      have kHX := kH.below bX kH.lt
      have b1 := hb.trans (bX.mono hb.size)
      have hXH : wr.heap.size ≠ AH := by have := kH.lt; omega
      have hXB : w1.heap.size ≤ wr.heap.size := hb.size
      clear HA hb bX kH
      obtain ⟨⟨c0, c1, c2, c3⟩, _⟩ := cells4 kX
      go_wp2_with fail
      refine (q1.out _).mono ?_
      rintro e w2 ⟨rfl, hb2⟩
      have b2 := b1.trans (hb2.mono b1.size)
      have kX2 := kX.below hb2 kX.lt
      have kH2 := kHX.below hb2 kHX.lt
      clear b1 hb2 q1 kX kHX c0 c1 c2 c3
      generalize wr.heap.size = XB at *
      obtain ⟨⟨c0, c1, c2, c3⟩, _⟩ := cells4 kX2
      go_wp2_with fail
      go_loopw [6, 13] (fun vs vk wq => ∃ (k : Nat) (A : List UInt8), k ≤ x.labels.length ∧ vk = .int .i64 (k : Int) ∧ vs = .string (bs A) ∧ Blk wq AH 70 #[av, .int .i64 ah.last, .int .i64 ah.off, .int .i64 ah.len] ∧ Blk wq XB 70 #[.slice a' x.labels.length c', .int .i64 x.last, .int .i64 x.off, .int .i64 x.len] ∧ Below w1.heap.size w1 wq ∧ Hid (A ++ (((x.labels.drop k).flatMap (lab2B SY) ++ tail2B 3 ah x) ++ R2) = HEAD)) (fun _ vk _ => x.labels.length - (intOf vk).toNat)
      case atStart => exact ⟨0, _, Nat.zero_le _, rfl, rfl, kH2, kX2, b2, HA1⟩
      clear kH2 kX2 b2 HA1 c0 c1 c2 c3 hadd hAl e0 e1 e2 e3
      obtain ⟨k, A, hk, rfl, rfl, kH, kX, hb, HA⟩ := hrel
      have hAl : A.length ≤ 100000 := by
        have h1 := congrArg List.length HA.out
        rw [List.length_append] at h1
        have := HHL.out
        omega
      obtain ⟨⟨c0, c1, c2, c3⟩, _⟩ := cells4 kX
      rcases (show k < x.labels.length ∨ k = x.labels.length by omega) with hkl | hkN
      · obtain ⟨_, _, eL, _, hLx⟩ := id hL
        obtain ⟨rfl, _, rfl⟩ := Value.slice.inj eL
        obtain ⟨_, _, b3, o3, rfl, g0, g1⟩ := hLx k x.labels[k] (List.getElem?_eq_getElem hkl)
        have x0 := (hb.cell (World.block_lt_of_cell? _ _ g0)).trans g0
        have x1 := (hb.cell (World.block_lt_of_cell? _ _ g1)).trans g1
        have hmem := HSY.out _ (List.getElem_mem hkl)
        have h48 := hl48 _ (List.getElem_mem hkl)
        rw [List.drop_eq_getElem_cons hkl, List.flatMap_cons] at HA
        clear g0 g1 hLx eL
        generalize x.labels[k] = y at *
        have hp1 := (place_at hmem.1).1
        have hp2 := (place_at hmem.2).1
        have HMY := Lib.hid hmem
        have qp1 := Lib.hid (fun W (hW : GrowR _ W) => Rplace_any SY _ y.1 W (HS1.out.below (hb.trans (Below.mono hW hb.size))) HMY.out.1)
        have qp2 := Lib.hid (fun W (hW : GrowR _ W) => Rplace_any SY _ y.2 W (HS1.out.below (hb.trans (Below.mono hW hb.size))) HMY.out.2)
        have q1 := Lib.hid (fun W => Rsmall_any (placeI SY y.1) W (by omega))
        have q2 := Lib.hid (fun W => Rsmall_any (placeI SY y.2) W (by omega))
        have t1 := (Num.small_len (placeI SY y.1)).2
        have t2 := (Num.small_len (placeI SY y.2)).2
        have hl2 : lab2B SY y = Num.small (placeI SY y.1) ++ Num.small (placeI SY y.2) := rfl
        rw [hl2] at HA
        generalize Num.small (placeI SY y.1) = y1 at *
        generalize Num.small (placeI SY y.2) = y2 at *
        generalize placeI SY y.1 = p1 at *
        generalize placeI SY y.2 = p2 at *
        have hadd1 : ∀ W, (Op.stringOp .add (bs A) (bs y1)).run Tryz.prog W = .ok (.string (bs (A ++ y1))) W := fun W => run_add_bs (P := Tryz.prog) A y1 (by omega) W
        have hadd2 : ∀ W, (Op.stringOp .add (bs (A ++ y1)) (bs y2)).run Tryz.prog W = .ok (.string (bs (A ++ y1 ++ y2))) W := fun W => run_add_bs (P := Tryz.prog) (A ++ y1) y2 (by rw [List.length_append]; omega) W
        have HA2 := Lib.hid (show (A ++ y1 ++ y2) ++ (((x.labels.drop (k + 1)).flatMap (lab2B SY) ++ tail2B 3 ah x) ++ R2) = HEAD by rw [← HA.out]; simp [List.append_assoc])
        generalize A ++ y1 ++ y2 = A2 at *
        generalize A ++ y1 = A1 at *
        have X0 := grow_cell c0
        have Y0 := grow_cell x0
        have Y1 := grow_cell x1
        clear HA hl2 hmem h48 c1 c2 c3
        go_wp2_with fail
        refine wp_region_at (R := GrowR) (by kernel_rfl) (by kernel_rfl) ?_
        (try dsimp only)
        (refine lex_one (by kernel_rfl) (by kernel_rfl) (by kernel_rfl) (fun K hK => ?_); go_big_quiet_step (fail); refine wpQuiet_nil (hK _ ?_); clear hK K); (refine lex_one (by kernel_rfl) (by kernel_rfl) (by kernel_rfl) (fun K hK => ?_); go_big_quiet_step (fail); refine wpQuiet_nil (hK _ ?_); clear hK K); (refine lex_one (by kernel_rfl) (by kernel_rfl) (by kernel_rfl) (fun K hK => ?_); go_big_quiet_step (fail); refine wpQuiet_nil (hK _ ?_); clear hK K); (refine lex_one (by kernel_rfl) (by kernel_rfl) (by kernel_rfl) (fun K hK => ?_); go_big_quiet_step (fail); refine wpQuiet_nil (hK _ ?_); clear hK K); (refine lex_one (by kernel_rfl) (by kernel_rfl) (by kernel_rfl) (fun K hK => ?_); go_big_quiet_step (fail); refine wpQuiet_nil (hK _ ?_); clear hK K); (refine lex_one (by kernel_rfl) (by kernel_rfl) (by kernel_rfl) (fun K hK => ?_); go_big_quiet_step (fail); refine wpQuiet_nil (hK _ ?_); clear hK K); (refine lex_one (by kernel_rfl) (by kernel_rfl) (by kernel_rfl) (fun K hK => ?_); go_big_quiet_step (fail); refine wpQuiet_nil (hK _ ?_); clear hK K); (refine lex_one (by kernel_rfl) (by kernel_rfl) (by kernel_rfl) (fun K hK => ?_); go_big_quiet_step (fail); refine wpQuiet_nil (hK _ ?_); clear hK K)
        (refine lex_call (f := 76) (args := #[.slice sa SY.length sc, .string (bs y.1)]) (v := .int .i64 (p1 : Int)) (by kernel_rfl) (fun _ _ h => by cases h) (by kernel_rfl) (by kernel_rfl) (fun _ => by go_simp) (fun W hW => qp1.out W hW) (lex_put (type := 0) (pos := "") (fun K hK => ?_)); go_big_quiet_step (fail); refine wpQuiet_nil (hK _ ?_); clear hK K)
        (refine lex_call (f := 73) (args := #[.int .i64 (p1 : Int)]) (v := .string (bs y1)) (by kernel_rfl) (fun _ _ h => by cases h) (by kernel_rfl) (by kernel_rfl) (fun _ => by go_simp) (fun W hW => q1.out W) (lex_put (type := 0) (pos := "") (fun K hK => ?_)); go_big_quiet_step (fail); refine wpQuiet_nil (hK _ ?_); clear hK K)
        (refine lex_one (by kernel_rfl) (by kernel_rfl) (by kernel_rfl) (fun K hK => ?_); go_big_quiet_step (fail); refine wpQuiet_nil (hK _ ?_); clear hK K); (refine lex_one (by kernel_rfl) (by kernel_rfl) (by kernel_rfl) (fun K hK => ?_); go_big_quiet_step (fail); refine wpQuiet_nil (hK _ ?_); clear hK K); (refine lex_one (by kernel_rfl) (by kernel_rfl) (by kernel_rfl) (fun K hK => ?_); go_big_quiet_step (fail); refine wpQuiet_nil (hK _ ?_); clear hK K); (refine lex_one (by kernel_rfl) (by kernel_rfl) (by kernel_rfl) (fun K hK => ?_); go_big_quiet_step (fail); refine wpQuiet_nil (hK _ ?_); clear hK K); (refine lex_one (by kernel_rfl) (by kernel_rfl) (by kernel_rfl) (fun K hK => ?_); go_big_quiet_step (fail); refine wpQuiet_nil (hK _ ?_); clear hK K); (refine lex_one (by kernel_rfl) (by kernel_rfl) (by kernel_rfl) (fun K hK => ?_); go_big_quiet_step (fail); refine wpQuiet_nil (hK _ ?_); clear hK K); (refine lex_one (by kernel_rfl) (by kernel_rfl) (by kernel_rfl) (fun K hK => ?_); go_big_quiet_step (fail); refine wpQuiet_nil (hK _ ?_); clear hK K); (refine lex_one (by kernel_rfl) (by kernel_rfl) (by kernel_rfl) (fun K hK => ?_); go_big_quiet_step (fail); refine wpQuiet_nil (hK _ ?_); clear hK K)
        (refine lex_call (f := 76) (args := #[.slice sa SY.length sc, .string (bs y.2)]) (v := .int .i64 (p2 : Int)) (by kernel_rfl) (fun _ _ h => by cases h) (by kernel_rfl) (by kernel_rfl) (fun _ => by go_simp) (fun W hW => qp2.out W hW) (lex_put (type := 0) (pos := "") (fun K hK => ?_)); go_big_quiet_step (fail); refine wpQuiet_nil (hK _ ?_); clear hK K)
        (refine lex_call (f := 73) (args := #[.int .i64 (p2 : Int)]) (v := .string (bs y2)) (by kernel_rfl) (fun _ _ h => by cases h) (by kernel_rfl) (by kernel_rfl) (fun _ => by go_simp) (fun W hW => q2.out W) (lex_put (type := 0) (pos := "") (fun K hK => ?_)); go_big_quiet_step (fail); refine wpQuiet_nil (hK _ ?_); clear hK K)
        (refine lex_one (by kernel_rfl) (by kernel_rfl) (by kernel_rfl) (fun K hK => ?_); go_big_quiet_step (fail); refine wpQuiet_nil (hK _ ?_); clear hK K); (refine lex_one (by kernel_rfl) (by kernel_rfl) (by kernel_rfl) (fun K hK => ?_); go_big_quiet_step (fail); refine wpQuiet_nil (hK _ ?_); clear hK K)
        refine lex_nil (by kernel_rfl) (by kernel_rfl) (by kernel_rfl) ?_
        intro w5 hb5
        simp only [hideAll]
        have b5 := hb.trans (Below.mono hb5 hb.size)
        have kH5 := Blk.below kH hb5 kH.lt
        have kX5 := Blk.below kX hb5 kX.lt
        go_wp2_with fail
        go_roundw
        case rel => exact ⟨k + 1, _, by omega, by go_num, rfl, kH5, kX5, b5, HA2⟩
        case measure => simp [intOf]; omega
      · subst hkN
        rw [List.drop_length, List.flatMap_nil, List.nil_append] at HA
        obtain ⟨n1, n2, n3, n4, n5, n6⟩ := hnx
        obtain ⟨h1, h2, h3, h4, h5, h6⟩ := hah
        obtain ⟨⟨d0, d1, d2, d3⟩, f0, f1, f2, f3⟩ := cells4 kH
        have g1 := grow_cell c1
        have g2 := grow_cell c2
        have g3 := grow_cell c3
        have j1 := grow_cell d1
        have j2 := grow_cell d2
        have j3 := grow_cell d3
        have z1 := Num.zig_bd (x.last - ah.last) (by omega) (by omega)
        have z2 := Num.zig_bd (x.off - ah.off - ah.len) (by omega) (by omega)
        have qz1 := Lib.hid (fun W => (ref_Zig_any (x.last - ah.last) W (by omega) (by omega)).mono fun e w' (h : e = .returned (.int .u64 (Num.zigI (x.last - ah.last))) ∧ W = w') => (⟨h.1, h.2 ▸ Below.refl _ _⟩ : e = .returned (.int .u64 (Num.zigI (x.last - ah.last))) ∧ GrowR W w'))
        have qz2 := Lib.hid (fun W => (ref_Zig_any (x.off - ah.off - ah.len) W (by omega) (by omega)).mono fun e w' (h : e = .returned (.int .u64 (Num.zigI (x.off - ah.off - ah.len))) ∧ W = w') => (⟨h.1, h.2 ▸ Below.refl _ _⟩ : e = .returned (.int .u64 (Num.zigI (x.off - ah.off - ah.len))) ∧ GrowR W w'))
        have q1 := Lib.hid (fun W => ref_Small_any (Num.zigI (x.last - ah.last)) W z1.1 z1.2)
        have q2 := Lib.hid (fun W => ref_Small_any (Num.zigI (x.off - ah.off - ah.len)) W z2.1 z2.2)
        have u3 := (u64N_of x.len n5 (by omega)).1
        have q3 := Lib.hid (fun W => Rsmall_any (u64N x.len) W (by omega))
        rw [u3] at q3
        have ht2 : tail2B 3 ah x = (Num.small (Num.zigI (x.last - ah.last)).toNat ++ Num.small (Num.zigI (x.off - ah.off - ah.len)).toNat) ++ Num.small (u64N x.len) := rfl
        rw [ht2] at HA
        have t1 := (Num.small_len (Num.zigI (x.last - ah.last)).toNat).2
        have t2 := (Num.small_len (Num.zigI (x.off - ah.off - ah.len)).toNat).2
        have t3 := (Num.small_len (u64N x.len)).2
        have w1' : IntKind.i64.wrap (x.last - ah.last) = x.last - ah.last := IntWalk.i64_in _ (by omega)
        have w2' : IntKind.i64.wrap (x.off - ah.off) = x.off - ah.off := IntWalk.i64_in _ (by omega)
        have w3' : IntKind.i64.wrap (x.off - ah.off - ah.len) = x.off - ah.off - ah.len := IntWalk.i64_in _ (by omega)
        clear u3
        generalize Num.small (Num.zigI (x.last - ah.last)).toNat = y1 at *
        generalize Num.small (Num.zigI (x.off - ah.off - ah.len)).toNat = y2 at *
        generalize Num.small (u64N x.len) = y3 at *
        generalize Num.zigI (x.last - ah.last) = p1 at *
        generalize Num.zigI (x.off - ah.off - ah.len) = p2 at *
        have HA2 := Lib.hid (show (A ++ y1 ++ y2 ++ y3) ++ ents2B 3 SY x (E.drop (i + 1)) = HEAD by rw [HR2.out, ← HA.out]; simp [List.append_assoc])
        have hadd1 : ∀ W, (Op.stringOp .add (bs A) (bs y1)).run Tryz.prog W = .ok (.string (bs (A ++ y1))) W := fun W => run_add_bs (P := Tryz.prog) A y1 (by omega) W
        have hadd2 : ∀ W, (Op.stringOp .add (bs (A ++ y1)) (bs y2)).run Tryz.prog W = .ok (.string (bs (A ++ y1 ++ y2))) W := fun W => run_add_bs (P := Tryz.prog) (A ++ y1) y2 (by rw [List.length_append]; omega) W
        have hadd3 : ∀ W, (Op.stringOp .add (bs (A ++ y1 ++ y2)) (bs y3)).run Tryz.prog W = .ok (.string (bs (A ++ y1 ++ y2 ++ y3))) W := fun W => run_add_bs (P := Tryz.prog) (A ++ y1 ++ y2) y3 (by rw [List.length_append, List.length_append]; omega) W
        generalize A ++ y1 ++ y2 ++ y3 = A3 at *
        generalize A ++ y1 ++ y2 = A2 at *
        generalize A ++ y1 = A1 at *
        clear HA ht2 hL hl48 c1 c2 c3 d0 d1 d2 d3 f0 f1 f2 f3
        go_wp2_with fail
        refine wp_region_at (R := GrowR) (by kernel_rfl) (by kernel_rfl) ?_
        (try dsimp only)
        (refine lex_one (by kernel_rfl) (by kernel_rfl) (by kernel_rfl) (fun K hK => ?_); go_big_quiet_step (fail); refine wpQuiet_nil (hK _ ?_); clear hK K); (refine lex_one (by kernel_rfl) (by kernel_rfl) (by kernel_rfl) (fun K hK => ?_); go_big_quiet_step (fail); refine wpQuiet_nil (hK _ ?_); clear hK K); (refine lex_one (by kernel_rfl) (by kernel_rfl) (by kernel_rfl) (fun K hK => ?_); go_big_quiet_step (fail); refine wpQuiet_nil (hK _ ?_); clear hK K); (refine lex_one (by kernel_rfl) (by kernel_rfl) (by kernel_rfl) (fun K hK => ?_); go_big_quiet_step (fail); refine wpQuiet_nil (hK _ ?_); clear hK K); (refine lex_one (by kernel_rfl) (by kernel_rfl) (by kernel_rfl) (fun K hK => ?_); go_big_quiet_step (fail); refine wpQuiet_nil (hK _ ?_); clear hK K); (refine lex_one (by kernel_rfl) (by kernel_rfl) (by kernel_rfl) (fun K hK => ?_); go_big_quiet_step (fail); refine wpQuiet_nil (hK _ ?_); clear hK K)
        (refine lex_call (f := 78) (args := #[.int .i64 (x.last - ah.last)]) (v := .int .u64 p1) (by kernel_rfl) (fun _ _ h => by cases h) (by kernel_rfl) (by kernel_rfl) (fun _ => by go_simp) (fun W hW => qz1.out W) (lex_put (type := 0) (pos := "") (fun K hK => ?_)); go_big_quiet_step (fail); refine wpQuiet_nil (hK _ ?_); clear hK K)
        (refine lex_call (f := 77) (args := #[.int .u64 p1]) (v := .string (bs y1)) (by kernel_rfl) (fun _ _ h => by cases h) (by kernel_rfl) (by kernel_rfl) (fun _ => by go_simp) (fun W hW => q1.out W) (lex_put (type := 0) (pos := "") (fun K hK => ?_)); go_big_quiet_step (fail); refine wpQuiet_nil (hK _ ?_); clear hK K)
        (refine lex_one (by kernel_rfl) (by kernel_rfl) (by kernel_rfl) (fun K hK => ?_); go_big_quiet_step (fail); refine wpQuiet_nil (hK _ ?_); clear hK K); (refine lex_one (by kernel_rfl) (by kernel_rfl) (by kernel_rfl) (fun K hK => ?_); go_big_quiet_step (fail); refine wpQuiet_nil (hK _ ?_); clear hK K); (refine lex_one (by kernel_rfl) (by kernel_rfl) (by kernel_rfl) (fun K hK => ?_); go_big_quiet_step (fail); refine wpQuiet_nil (hK _ ?_); clear hK K); (refine lex_one (by kernel_rfl) (by kernel_rfl) (by kernel_rfl) (fun K hK => ?_); go_big_quiet_step (fail); refine wpQuiet_nil (hK _ ?_); clear hK K); (refine lex_one (by kernel_rfl) (by kernel_rfl) (by kernel_rfl) (fun K hK => ?_); go_big_quiet_step (fail); refine wpQuiet_nil (hK _ ?_); clear hK K); (refine lex_one (by kernel_rfl) (by kernel_rfl) (by kernel_rfl) (fun K hK => ?_); go_big_quiet_step (fail); refine wpQuiet_nil (hK _ ?_); clear hK K); (refine lex_one (by kernel_rfl) (by kernel_rfl) (by kernel_rfl) (fun K hK => ?_); go_big_quiet_step (fail); refine wpQuiet_nil (hK _ ?_); clear hK K); (refine lex_one (by kernel_rfl) (by kernel_rfl) (by kernel_rfl) (fun K hK => ?_); go_big_quiet_step (fail); refine wpQuiet_nil (hK _ ?_); clear hK K); (refine lex_one (by kernel_rfl) (by kernel_rfl) (by kernel_rfl) (fun K hK => ?_); go_big_quiet_step (fail); refine wpQuiet_nil (hK _ ?_); clear hK K)
        (refine lex_call (f := 78) (args := #[.int .i64 (x.off - ah.off - ah.len)]) (v := .int .u64 p2) (by kernel_rfl) (fun _ _ h => by cases h) (by kernel_rfl) (by kernel_rfl) (fun _ => by go_simp) (fun W hW => qz2.out W) (lex_put (type := 0) (pos := "") (fun K hK => ?_)); go_big_quiet_step (fail); refine wpQuiet_nil (hK _ ?_); clear hK K)
        (refine lex_call (f := 77) (args := #[.int .u64 p2]) (v := .string (bs y2)) (by kernel_rfl) (fun _ _ h => by cases h) (by kernel_rfl) (by kernel_rfl) (fun _ => by go_simp) (fun W hW => q2.out W) (lex_put (type := 0) (pos := "") (fun K hK => ?_)); go_big_quiet_step (fail); refine wpQuiet_nil (hK _ ?_); clear hK K)
        (refine lex_one (by kernel_rfl) (by kernel_rfl) (by kernel_rfl) (fun K hK => ?_); go_big_quiet_step (fail); refine wpQuiet_nil (hK _ ?_); clear hK K); (refine lex_one (by kernel_rfl) (by kernel_rfl) (by kernel_rfl) (fun K hK => ?_); go_big_quiet_step (fail); refine wpQuiet_nil (hK _ ?_); clear hK K); (refine lex_one (by kernel_rfl) (by kernel_rfl) (by kernel_rfl) (fun K hK => ?_); go_big_quiet_step (fail); refine wpQuiet_nil (hK _ ?_); clear hK K)
        (refine lex_call (f := 73) (args := #[.int .i64 x.len]) (v := .string (bs y3)) (by kernel_rfl) (fun _ _ h => by cases h) (by kernel_rfl) (by kernel_rfl) (fun _ => by go_simp) (fun W hW => q3.out W) (lex_put (type := 0) (pos := "") (fun K hK => ?_)); go_big_quiet_step (fail); refine wpQuiet_nil (hK _ ?_); clear hK K)
        (refine lex_one (by kernel_rfl) (by kernel_rfl) (by kernel_rfl) (fun K hK => ?_); go_big_quiet_step (fail); refine wpQuiet_nil (hK _ ?_); clear hK K); (refine lex_one (by kernel_rfl) (by kernel_rfl) (by kernel_rfl) (fun K hK => ?_); go_big_quiet_step (fail); refine wpQuiet_nil (hK _ ?_); clear hK K)
        refine lex_nil (by kernel_rfl) (by kernel_rfl) (by kernel_rfl) ?_
        intro w5 hb5
        simp only [hideAll]
        have b5 := hb.trans (Below.mono hb5 hb.size)
        have kH5 := Blk.below kH hb5 kH.lt
        have kX5 := Blk.below kX hb5 kX.lt
        obtain ⟨⟨c0, c1, c2, c3⟩, _⟩ := cells4 kX5
        obtain ⟨⟨d0, d1, d2, d3⟩, f0, f1, f2, f3⟩ := cells4 kH5
        obtain ⟨kH7, K7⟩ := set4 kH5 (.slice a' x.labels.length c') (.int .i64 x.last) (.int .i64 x.off) (.int .i64 x.len)
        have HkH7 := Lib.hid kH7
        have HK7 := Lib.hid K7
        have Hb5 := Lib.hid b5
        clear kH5 kX5 b5 kH7 K7 g1 g2 g3 j1 j2 j3
        go_wp2_with fail
        go_roundw
        case rel => exact ⟨i + 1, _, x, _, by omega, by go_num, rfl, HkH7.out, ⟨n1, n2, n3, n4, n5, n6⟩, Hb5.out.trans (HK7.out.below Hb5.out.size fun k e => by omega), HA2⟩
        case measure => simp [intOf]; omega
    · subst hiN
      rw [List.drop_length, show ents2B 3 SY ah [] = [] from rfl, List.append_nil] at HA
      obtain rfl := HA.out
      have QL2 := Lib.hid (QL.out wr _ (HE1.out.below hb))
      have HAL : Hid (A ++ ((keysOf E).drop 0).flatMap (chunkP (pairsI E)) = moreI E 3) := Lib.hid HMO.out.symm
      have hML : (moreI E 3).length ≤ 400000 := by
        have h1 := flat_le (chunkP (pairsI E)) 1210 (keysOf E) (fun y _ => Nat.le_trans (chunk_len _ _) (by omega))
        rw [HMO.out, List.length_append]
        omega
      clear HMO HHL HMEM HRT HSb
      generalize hALL : moreI E 3 = ALL at *
      have HALL := Lib.hid hALL
      clear hALL
      generalize hKS : keysOf E = KS at *
      clear hKS
      go_wp2_with fail
      refine QL2.out.mono ?_
      rintro e w4 ⟨kv, rfl, ⟨hKA, _, _⟩, hb4⟩
      have B4 := hb.trans (hb4.mono hb.size)
      have HKA := Lib.hid hKA
      obtain ⟨ka, kc, rfl, _, hkx⟩ := hKA
      have HKX := Lib.hid hkx
      clear hkx hb hb4 QL QL2 kH hah
      go_wp2_with fail
      go_loopw [6, 15] (fun vs vi wr => ∃ (q : Nat) (A : List UInt8), q ≤ KS.length ∧ vi = .int .i64 (q : Int) ∧ vs = .string (bs A) ∧ Below w4.heap.size w4 wr ∧ Hid (A ++ (KS.drop q).flatMap (chunkP (pairsI E)) = ALL)) (fun _ vi _ => KS.length - (intOf vi).toNat)
      case atStart => exact ⟨0, _, Nat.zero_le _, rfl, rfl, Below.refl _ _, HAL⟩
      clear HAL hAl
      obtain ⟨q, A, hq, rfl, rfl, hb, HA⟩ := hrel
      have hAl : A.length ≤ 400000 := by
        have h1 := congrArg List.length HA.out
        rw [List.length_append] at h1
        omega
      rcases (show q < KS.length ∨ q = KS.length by omega) with hql | hqN
      · obtain ⟨_, _, kb, ko, rfl, g0, g1⟩ := HKX.out q KS[q] (List.getElem?_eq_getElem hql)
        have x0 := (hb.cell (World.block_lt_of_cell? _ _ g0)).trans g0
        have x1 := (hb.cell (World.block_lt_of_cell? _ _ g1)).trans g1
        rw [List.drop_eq_getElem_cons hql, List.flatMap_cons] at HA
        have hwy := HCK.out KS[q]
        have hLs := HSO.out KS[q]
        have hLl := val_len (pairsI E) KS[q]
        have hLd := dlt_len (valOf (pairsI E) KS[q]) 0
        have QP := Lib.hid (fun W u (hW : EntsAt W u E) => RPostings_any E u KS[q] W hW)
        rw [hwy, show postsOf E KS[q] = valOf (pairsI E) KS[q] from rfl] at QP
        rw [show chunkP (pairsI E) KS[q] = Num.small (valOf (pairsI E) KS[q]).length ++ dltN 0 (valOf (pairsI E) KS[q]) from rfl] at HA
        clear hwy g0 g1
        generalize KS[q] = y at *
        obtain ⟨y1, y2⟩ := y
        simp only at x0 x1 QP
        generalize valOf (pairsI E) (y1, y2) = L at *
        generalize hRR : (KS.drop (q + 1)).flatMap (chunkP (pairsI E)) = RR at *
        have HRR := Lib.hid hRR
        clear hRR
        have QP2 := Lib.hid (QP.out wr _ (HE1.out.below (B4.trans (hb.mono B4.size))))
        have q1 := Lib.hid (fun W => Rsmall_any L.length W (by omega))
        have t1 := (Num.small_len L.length).2
        have HA1 := Lib.hid (show (A ++ Num.small L.length) ++ (dltN 0 (L.drop 0) ++ RR) = ALL by rw [← HA.out]; simp [List.append_assoc])
        generalize Num.small L.length = nl at *
        have hadd : ∀ W, (Op.stringOp .add (bs A) (bs nl)).run Tryz.prog W = .ok (.string (bs (A ++ nl))) W := fun W => run_add_bs (P := Tryz.prog) A nl (by omega) W
        generalize A ++ nl = A1 at *
        clear QP HA HCK HSO
        go_wp2_with fail
        refine QP2.out.mono ?_
        rintro e w5 ⟨pv, rfl, hP, hb5⟩
        obtain ⟨pa, pc, rfl, _, _, _, hPx⟩ := hP
        have HPX := Lib.hid hPx
        have b5 := hb.trans (hb5.mono hb.size)
        rw [intsN_len]
        clear hPx QP2 hb5 hb x0 x1
        go_wp2_with fail
        refine (q1.out _).mono ?_
        rintro e w6 ⟨rfl, hb6⟩
        clear q1
        go_wp2_with fail
        go_loopw [6, 17, 18] (fun vs vf vk wq => ∃ (k f : Nat) (A : List UInt8), k ≤ L.length ∧ vk = .int .i64 (k : Int) ∧ vf = .int .i64 (f : Int) ∧ vs = .string (bs A) ∧ f ≤ E.length ∧ Hid (∀ j, (h : j < L.length) → k ≤ j → f ≤ L[j]) ∧ Below w5.heap.size w5 wq ∧ Hid (A ++ (dltN f (L.drop k) ++ RR) = ALL)) (fun _ _ vk _ => L.length - (intOf vk).toNat)
        case atStart => exact ⟨0, 0, _, Nat.zero_le _, rfl, rfl, rfl, Nat.zero_le _, Lib.hid (fun _ _ _ => Nat.zero_le _), hb6, HA1⟩
        clear hb6 HA1 hadd hAl
        obtain ⟨k, f, A, hk, rfl, rfl, rfl, hfE, HF, hbq, HA⟩ := hrel
        have hAl : A.length ≤ 400000 := by
          have h1 := congrArg List.length HA.out
          rw [List.length_append] at h1
          omega
        rcases (show k < L.length ∨ k = L.length by omega) with hkl2 | hkN
        · obtain ⟨pb, po, rfl, z0⟩ := HPX.out k (L[k] : Int) (by simp [intsN, hkl2])
          have y0 := (hbq.cell (World.block_lt_of_cell? _ _ z0)).trans z0
          have hfk := HF.out k hkl2 (Nat.le_refl _)
          have hLE := hLs.2 L[k] (List.getElem_mem hkl2)
          have HF2 := Lib.hid (fun j (h : j < L.length) (hkj : k + 1 ≤ j) => List.pairwise_iff_getElem.1 hLs.1 k j hkl2 h (by omega))
          have hdr : dltN f (L.drop k) = Num.small (L[k] - f) ++ dltN L[k] (L.drop (k + 1)) := by rw [List.drop_eq_getElem_cons hkl2, dltN]
          rw [hdr] at HA
          clear hdr z0
          generalize L[k] = z at *
          have hzf : ((z - f : Nat) : Int) = (z : Int) - (f : Int) := by omega
          have hw1 : IntKind.i64.wrap ((z : Int) - (f : Int)) = (z : Int) - (f : Int) := IntWalk.i64_in _ (by omega)
          have q1 := Lib.hid (fun W => Rsmall_any (z - f) W (by omega))
          rw [hzf] at q1
          have t1 := (Num.small_len (z - f)).2
          have HA3 := Lib.hid (show (A ++ Num.small (z - f)) ++ (dltN z (L.drop (k + 1)) ++ RR) = ALL by rw [← HA.out]; simp [List.append_assoc])
          clear hzf
          generalize Num.small (z - f) = ns at *
          have hadd : ∀ W, (Op.stringOp .add (bs A) (bs ns)).run Tryz.prog W = .ok (.string (bs (A ++ ns))) W := fun W => run_add_bs (P := Tryz.prog) A ns (by omega) W
          generalize A ++ ns = A1 at *
          clear HA HF
          go_wp2_with fail
          refine (q1.out _).mono ?_
          rintro e w7 ⟨rfl, hb7⟩
          have b7 := hbq.trans (hb7.mono hbq.size)
          have y7 := (hb7.cell (World.block_lt_of_cell? _ _ y0)).trans y0
          clear hbq hb7 y0 q1
          go_wp2_with fail
          go_roundw
          case rel => exact ⟨k + 1, z, A1, by omega, by go_num, rfl, rfl, by omega, HF2, b7, HA3⟩
          case measure => simp [intOf]; omega
        · subst hkN
          rw [List.drop_length, show dltN f [] = [] from rfl, List.nil_append] at HA
          go_wp2_with fail
          go_roundw
          case rel => exact ⟨q + 1, A, by omega, by go_num, rfl, b5.trans (hbq.mono b5.size), by rw [HRR.out]; exact HA⟩
          case measure => simp [intOf]; omega
      · subst hqN
        rw [List.drop_length, List.flatMap_nil, List.append_nil] at HA
        obtain rfl := HA.out
        go_wp2_with fail
        go_ret
        exact ⟨by rw [HALL.out]; rfl, HB1.out.trans (Below.mono (B4.trans (hb.mono B4.size)) HB1.out.size)⟩
end Go.Proofs.YtpeahjocimhneaaGreatDoor
namespace Go.Proofs.YtpeahjocimhneaaGreatDoor
open Go.RowKit Go.Maps Go.WideMaps
attribute [local go_sem] bs_toList bs_size

set_option maxRecDepth 100000 in
set_option maxHeartbeats 2000000 in
theorem RPut_any (E : List En) (v : Value) (g : Int) (w : World) (h : EntsAt w v E) (h1 : -9223372036854775808 ≤ g) (h2 : g ≤ 9223372036854775807) :
    Calls Tryz.prog 12 #[v, .int .i64 g] w fun e w' => e = .returned (putIV E g) ∧ Below w.heap.size w w' := by
  have qv := Lib.hid (RValid12_any E v g w h h1 h2)
  have HP0 := Lib.hid (show validI E g ≠ 0 → putIV E g = .tuple #[.string ⟨#[]⟩, .int .i64 (validI E g)] from fun hv => by unfold putIV; rw [putI_bad hv]; rfl)
  have HP1 := Lib.hid (show validI E g = 0 → putIV E g = .tuple #[.string (bs (bodyI E g ++ tailB (bodyI E g))), .int .i64 0] from fun hv => by unfold putIV; rw [putI_ok hv])
  have HVP := Lib.hid (valid_parts (l := E) (g := g))
  have HBL := Lib.hid (body_len E g)
  have HBG := Lib.hid (show bodyI E g = if g = 1 then oneI E else moreI E g from rfl)
  have H := Lib.hid h
  clear h
  generalize putIV E g = PV at *
  generalize validI E g = VV at *
  generalize bodyI E g = BD at *
  by_cases hv : VV = 0
  · subst hv
    have HY := Lib.hid (HP1.out rfl)
    obtain ⟨g1, g3, hE, _, hr⟩ := HVP.out rfl
    have HR := Lib.hid (fun x hx => (hr x hx).1)
    have hbl := HBL.out rfl
    have qt := Lib.hid (fun W => ref01_Tail_any BD (by omega) W)
    have htl := tailB_len BD
    have hadd : ∀ W, (Op.stringOp .add (bs BD) (bs (tailB BD))).run Tryz.prog W = .ok (.string (bs (BD ++ tailB BD))) W := fun W => run_add_bs (P := Tryz.prog) BD (tailB BD) (by omega) W
    clear HP0 HP1 HVP HBL hr
    rcases (show g = 1 ∨ g = 2 ∨ g = 3 by omega) with rfl | rfl | rfl
    · have hB := HBG.out
      rw [if_pos rfl] at hB
      have q := Lib.hid (fun W (hW : EntsAt W v E) => Rone_any E v W hW HR.out hE)
      rw [← hB] at q
      clear HBG hB
      generalize tailB BD = TB at *
      go_enter Tryz.func12, Tryz.ntmps12
      go_wp2_with fail
      refine qv.out.mono ?_
      rintro e w1 ⟨rfl, b1⟩
      have H1 := Lib.hid (H.out.below b1)
      clear qv
      go_wp2_with fail
      refine (q.out _ H1.out).mono ?_
      rintro e w2 ⟨rfl, b2⟩
      have b3 := b1.trans (b2.mono b1.size)
      clear q b1 b2 H1
      go_wp2_with fail
      refine (qt.out _).mono ?_
      rintro e w3 ⟨rfl, b4⟩
      have b5 := b3.trans (b4.mono b3.size)
      clear qt b3 b4
      go_wp2_with fail
      go_ret2
      exact ⟨by rw [HY.out]; rfl, b5⟩
    · have hB := HBG.out
      rw [if_neg (by decide)] at hB
      have q := Lib.hid (fun W (hW : EntsAt W v E) => Rmore2_any E v W hW HR.out hE)
      rw [← hB] at q
      clear HBG hB
      generalize tailB BD = TB at *
      go_enter Tryz.func12, Tryz.ntmps12
      go_wp2_with fail
      refine qv.out.mono ?_
      rintro e w1 ⟨rfl, b1⟩
      have H1 := Lib.hid (H.out.below b1)
      clear qv
      go_wp2_with fail
      refine (q.out _ H1.out).mono ?_
      rintro e w2 ⟨rfl, b2⟩
      have b3 := b1.trans (b2.mono b1.size)
      clear q b1 b2 H1
      go_wp2_with fail
      refine (qt.out _).mono ?_
      rintro e w3 ⟨rfl, b4⟩
      have b5 := b3.trans (b4.mono b3.size)
      clear qt b3 b4
      go_wp2_with fail
      go_ret2
      exact ⟨by rw [HY.out]; rfl, b5⟩
    · have hB := HBG.out
      rw [if_neg (by decide)] at hB
      have q := Lib.hid (fun W (hW : EntsAt W v E) => Rmore3_any E v W hW HR.out hE)
      rw [← hB] at q
      clear HBG hB
      generalize tailB BD = TB at *
      go_enter Tryz.func12, Tryz.ntmps12
      go_wp2_with fail
      refine qv.out.mono ?_
      rintro e w1 ⟨rfl, b1⟩
      have H1 := Lib.hid (H.out.below b1)
      clear qv
      go_wp2_with fail
      refine (q.out _ H1.out).mono ?_
      rintro e w2 ⟨rfl, b2⟩
      have b3 := b1.trans (b2.mono b1.size)
      clear q b1 b2 H1
      go_wp2_with fail
      refine (qt.out _).mono ?_
      rintro e w3 ⟨rfl, b4⟩
      have b5 := b3.trans (b4.mono b3.size)
      clear qt b3 b4
      go_wp2_with fail
      go_ret2
      exact ⟨by rw [HY.out]; rfl, b5⟩
  · have HY := Lib.hid (HP0.out hv)
    have f1 : (VV != 0) = true := by simpa using hv
    clear HP0 HP1 HVP HBL HBG hv
    go_enter Tryz.func12, Tryz.ntmps12
    go_wp2_with fail
    refine qv.out.mono ?_
    rintro e w1 ⟨rfl, b1⟩
    clear qv
    go_wp2_with fail
    go_ret2
    exact ⟨by rw [HY.out]; rfl, b1⟩
end Go.Proofs.YtpeahjocimhneaaGreatDoor
namespace Go.Proofs.YtpeahjocimhneaaGreatDoor
open Go.RowKit Go.Maps Go.WideMaps Go.ChangeShapes Go.WideShapes Go.Deep
attribute [local go_sem] bs_toList bs_size

set_option maxRecDepth 100000 in
set_option maxHeartbeats 2000000 in
theorem IndexPuts_walk {H : Type} {enc : TypeId × Value → H} {d1 d2 : DataW H} {p1 p2 : List MemPlace} (sa1 : Option Addr) (sl1 sc1 : Nat) (sa2 : Option Addr) (sl2 sc2 : Nat) (g : Int) (W : World)
    (h1 : DataW.Trod enc Tryz.prog W 0 (fun _ => true) true 22 (.slice sa1 sl1 sc1) d1 p1) (h2 : DataW.Trod enc Tryz.prog W 0 (fun _ => true) true 22 (.slice sa2 sl2 sc2) d2 p2)
    (g1 : -9223372036854775808 ≤ g) (g2 : g ≤ 9223372036854775807) :
    Calls Tryz.prog 3 #[.slice sa1 sl1 sc1, .slice sa2 sl2 sc2, .int .i64 g] W fun e w' => e = .returned (.bool true) ∧ Below W.heap.size W w' := by
  obtain ⟨_, h1⟩ := h1
  obtain ⟨_, h2⟩ := h2
  obtain ⟨L, hL⟩ := ents_of_trod h1
  obtain ⟨M, hM⟩ := ents_of_trod h2
  clear h1 h2
  have q0 := Lib.hid (works_any W)
  go_enter Tryz.func3, Tryz.ntmps3
  go_wp2_with fail
  refine q0.out.mono ?_
  rintro e W1 ⟨rfl, b1⟩
  have hL1 := hL.below b1
  have hM1 := hM.below b1
  have q1 := Lib.hid (few12_any hL1)
  clear q0 hL hM
  go_wp2_with fail
  refine q1.out.mono ?_
  rintro e W2 ⟨B1, rfl, b2, hf1⟩
  have HF1 := Lib.hid hf1
  clear hf1 q1
  have c2 := b1.trans (b2.mono b1.size)
  cases B1 with
  | false =>
    go_wp2_with fail
    go_ret
    exact ⟨rfl, c2⟩
  | true =>
    have hL2 := (hL1.below b2).at (HF1.out rfl)
    have hM2 := hM1.below b2
    have q2 := Lib.hid (few12_any hM2)
    clear hL1 hM1 HF1 b1 b2
    go_wp2_with fail
    refine q2.out.mono ?_
    rintro e W3 ⟨B2, rfl, b3, hf2⟩
    have HF2 := Lib.hid hf2
    clear hf2 q2
    have c3 := c2.trans (b3.mono c2.size)
    cases B2 with
    | false =>
      go_wp2_with fail
      go_ret
      exact ⟨rfl, c3⟩
    | true =>
      have hL3 := hL2.below b3
      have hM3 := (hM2.below b3).at (HF2.out rfl)
      clear hL2 hM2 HF2 b3 c2
      have HSM := Lib.hid (show decide (L = M) = sameI L M by rw [Bool.eq_iff_iff, decide_eq_true_eq]; exact (sameI_at hL3 hM3).symm)
      have q3 := Lib.hid (IPut_any L _ g W3 hL3 g1 g2)
      have QO := Lib.hid (fun E v W' (h : EntsAt W' v E) => Of12_any E v W' h)
      have QP := Lib.hid (fun v W' (h : EntsAt W' v L) => RPut_any L v g W' h g1 g2)
      have QV := Lib.hid (fun v W' (h : EntsAt W' v L) => RValid12_any L v g W' h g1 g2)
      have QS := Lib.hid (fun v u W' (h : EntsAt W' v L) (h' : EntsAt W' u M) => RSame12_any L M v u W' h h')
      have QIV := Lib.hid (fun v W' (h : EntsAt W' v L) => IValid_any L v g W' h g1 g2)
      have QIS := Lib.hid (fun v u W' (h : EntsAt W' v L) (h' : EntsAt W' u M) => ISame_any L M v u W' h h')
      rw [HSM.out] at QS
      obtain ⟨_, _, e0, _⟩ := id hL3
      obtain ⟨rfl, rfl, rfl⟩ := Value.slice.inj e0
      clear e0
      obtain ⟨_, _, e0, _⟩ := id hM3
      obtain ⟨rfl, rfl, rfl⟩ := Value.slice.inj e0
      clear e0 HSM
      unfold putIV at q3 QP
      rw [put_err] at q3 QP
      generalize (putI L g).1 = PA at *
      generalize validI L g = VA at *
      generalize sameI L M = SM at *
      go_wp2_with fail
      refine q3.out.mono ?_
      rintro e W4 ⟨rfl, b4⟩
      have hL4 := hL3.below b4
      have hM4 := hM3.below b4
      have c4 := c3.trans (b4.mono c3.size)
      clear q3 hL3 hM3 b4 c3
      go_wp2_with fail
      refine (QO.out L _ _ hL4).mono ?_
      rintro e W5 ⟨o1, rfl, hO1, b5⟩
      obtain ⟨a1, c1, ho1, _⟩ := id hO1
      subst ho1
      have hL5 := hL4.below b5
      have hM5 := hM4.below b5
      have c5 := c4.trans (b5.mono c4.size)
      clear hL4 hM4 b5 c4
      go_wp2_with fail
      refine (QP.out _ _ hO1).mono ?_
      rintro e W6 ⟨rfl, b6⟩
      have hL6 := hL5.below b6
      have hM6 := hM5.below b6
      have c6 := c5.trans (b6.mono c5.size)
      clear hL5 hM5 b6 c5 QP hO1
      go_wp2_with fail
      refine (QO.out L _ _ hL6).mono ?_
      rintro e W7 ⟨o2, rfl, hO2, b7⟩
      obtain ⟨a2, c2', ho2, _⟩ := id hO2
      subst ho2
      have hL7 := hL6.below b7
      have hM7 := hM6.below b7
      have c7 := c6.trans (b7.mono c6.size)
      clear hL6 hM6 b7 c6
      go_wp2_with fail
      refine (QV.out _ _ hO2).mono ?_
      rintro e W8 ⟨rfl, b8⟩
      have hL8 := hL7.below b8
      have hM8 := hM7.below b8
      have c8 := c7.trans (b8.mono c7.size)
      clear hL7 hM7 b8 c7 QV hO2
      go_wp2_with fail
      refine (QO.out L _ _ hL8).mono ?_
      rintro e W9 ⟨o3, rfl, hO3, b9⟩
      obtain ⟨a3, c3, ho3, _⟩ := id hO3
      subst ho3
      have hL9 := hL8.below b9
      have hM9 := hM8.below b9
      have c9 := c8.trans (b9.mono c8.size)
      clear hL8 hM8 b9 c8
      go_wp2_with fail
      refine (QO.out M _ _ hM9).mono ?_
      rintro e W10 ⟨o4, rfl, hO4, b10⟩
      obtain ⟨a4, c4, ho4, _⟩ := id hO4
      subst ho4
      have hL10 := hL9.below b10
      have hM10 := hM9.below b10
      have hO5 := hO3.below b10
      have c10 := c9.trans (b10.mono c9.size)
      clear hL9 hM9 b10 c9 QO hO3
      go_wp2_with fail
      refine (QS.out _ _ _ hO5 hO4).mono ?_
      rintro e W11 ⟨rfl, b11⟩
      have hL11 := hL10.below b11
      have hM11 := hM10.below b11
      have c11 := c10.trans (b11.mono c10.size)
      have f1 : (PA == PA) = true := by simp
      have f2 : (VA == VA) = true := by simp
      clear hL10 hM10 b11 c10 QS hO4 hO5
      go_wp2_with fail
      refine (QIV.out _ _ hL11).mono ?_
      rintro e W12 ⟨rfl, b12⟩
      have hL12 := hL11.below b12
      have hM12 := hM11.below b12
      have c12 := c11.trans (b12.mono c11.size)
      clear hL11 hM11 b12 c11 QIV
      go_wp2_with fail
      refine (QIS.out _ _ _ hL12 hM12).mono ?_
      rintro e W13 ⟨rfl, b13⟩
      have c13 := c12.trans (b13.mono c12.size)
      clear QIS
      cases SM with
      | true =>
        go_wp2_with fail
        go_ret
        exact ⟨rfl, c13⟩
      | false =>
        go_wp2_with fail
        go_ret
        exact ⟨rfl, c13⟩
end Go.Proofs.YtpeahjocimhneaaGreatDoor
