/- Who has labels, and who fits a matcher of each, in plain words. -/
import Derived.Test.YtpeahjocimhneaaGreatDoorGL
namespace Go.Proofs.YtpeahjocimhneaaGreatDoor
open Go.RowKit

theorem gt_less {a b : List UInt8} (h : gtB a b = true) : Op.bytesLess b a = true := by
  unfold gtB at h
  rcases bl_tri a b with h1 | h1 | h1
  · rw [h1] at h; cases h
  · subst h1; simp at h
  · exact h1
theorem chk_above : ∀ (L : List Lb) (last : List UInt8), chkFrom last L = true → ∀ y ∈ L, Op.bytesLess last y.1 = true
  | [], _, _, y, hy => by cases hy
  | x :: l, last, h, y, hy => by
    unfold chkFrom at h
    simp only [Bool.and_eq_true] at h
    obtain ⟨h1, _, _, _, h2⟩ := h
    have hx := gt_less h1
    rcases List.mem_cons.1 hy with rfl | hy
    · exact hx
    · exact bl_trans _ _ _ hx (chk_above l x.1 h2 y hy)
theorem getL_has : ∀ (L : List Lb) (last : List UInt8), chkFrom last L = true → ∀ n v, (n, v) ∈ L → getL L n = v
  | [], _, _, n, v, hy => by cases hy
  | x :: l, last, h, n, v, hy => by
    unfold chkFrom at h
    simp only [Bool.and_eq_true] at h
    obtain ⟨_, _, _, _, h2⟩ := h
    rcases List.mem_cons.1 hy with rfl | hy
    · rw [getL, if_pos rfl]
    · have h3 := chk_above l x.1 h2 _ hy
      rw [getL, if_neg (fun e => by rw [e] at h3; simp only at h3; rw [bl_irrefl] at h3; cases h3)]
      exact getL_has l x.1 h2 n v hy
theorem has_getL : ∀ (L : List Lb) (n v : List UInt8), getL L n = v → v ≠ [] → (n, v) ∈ L
  | [], n, v, h, hv => (hv h.symm).elim
  | x :: l, n, v, h, hv => by
    rw [getL] at h
    split at h
    · rename_i hn
      subst hn h
      exact List.mem_cons_self
    · exact List.mem_cons_of_mem _ (has_getL l n v h hv)
theorem fits_has {L : List Lb} {n v : List UInt8} (h : checkE L = 0) (hv : v ≠ []) : fitsM ⟨0, n, v⟩ L = decide ((n, v) ∈ L) := by
  have hc : chkFrom [] L = true := by
    unfold checkE at h
    cases hq : chkFrom [] L with
    | true => rfl
    | false => rw [hq] at h; simp at h
  unfold fitsM
  rw [if_pos rfl, Bool.eq_iff_iff]
  simp only [beq_iff_eq, decide_eq_true_eq]
  exact ⟨fun e => has_getL L n v e hv, fun e => getL_has L [] hc n v e⟩
/-- Those of two rows of places. -/
theorem filter_one : ∀ (B : List Nat) (a : Nat), B.Nodup → (B.filter fun b => decide (a = b)) = if a ∈ B then [a] else []
  | [], a, _ => by simp
  | b :: B, a, h => by
    have ih := filter_one B a (List.nodup_cons.1 h).2
    have hb := (List.nodup_cons.1 h).1
    rw [List.filter_cons]
    by_cases hab : a = b
    · subst hab
      simp [ih, hb]
    · simp [ih, hab]
def bothN (A B : List Nat) : List Nat := A.flatMap fun a => B.filter fun b => decide (a = b)
theorem both_filter (A B : List Nat) (hB : B.Nodup) : bothN A B = A.filter fun a => decide (a ∈ B) := by
  unfold bothN
  induction A with
  | nil => rfl
  | cons a A ih =>
    rw [List.flatMap_cons, ih, filter_one B a hB, List.filter_cons]
    by_cases h : a ∈ B <;> simp [h]
theorem both_who (E : List En) (x y : Lb) (hE : ∀ e ∈ E, checkE e.labels = 0) (hx : x.2 ≠ []) (hy : y.2 ≠ []) : bothN (whoN E x) (whoN E y) = askN [⟨0, x.1, x.2⟩, ⟨0, y.1, y.2⟩] E := by
  have hn : (whoN E y).Nodup := List.Pairwise.filter _ List.nodup_range
  rw [both_filter _ _ hn]
  unfold whoN askN selN
  rw [List.filter_filter, List.length_map]
  refine List.filter_congr fun i hi => ?_
  have hil : i < E.length := List.mem_range.1 hi
  have hm : (E.map (·.labels)).getD i [] = (E.getD i zeroEn).labels := by
    simp [List.getD_eq_getElem?_getD, hil]
  have hc : checkE (E.getD i zeroEn).labels = 0 := by
    rw [List.getD_eq_getElem?_getD, List.getElem?_eq_getElem hil]
    exact hE _ (List.getElem_mem hil)
  have hf : fitI [⟨0, x.1, x.2⟩, ⟨0, y.1, y.2⟩] (E.map (·.labels)) i = (hasI E x i && hasI E y i) := by
    unfold fitI allM hasI
    rw [hm]
    simp only [List.all_cons, List.all_nil, Bool.and_true]
    rw [fits_has hc hx, fits_has hc hy]
  rw [hf, Bool.eq_iff_iff]
  simp only [Bool.and_eq_true, decide_eq_true_eq, List.mem_filter, List.mem_range]
  exact ⟨fun h => ⟨h.2, h.1.2⟩, fun h => ⟨⟨hil, h.2⟩, h.1⟩⟩
theorem who_len (E : List En) (y : Lb) : (whoN E y).length ≤ E.length := filter_range_len _ _
theorem both_len (A B : List Nat) : (bothN A B).length ≤ A.length * B.length := by
  unfold bothN
  induction A with
  | nil => simp
  | cons a A ih =>
    rw [List.flatMap_cons, List.length_append, List.length_cons, Nat.succ_mul]
    have := List.length_filter_le (fun b => decide (a = b)) B
    omega
end Go.Proofs.YtpeahjocimhneaaGreatDoor
