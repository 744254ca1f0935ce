/- An index as bytes, and what bytes tell: in plain words. What is put into an index is got again, and nothing else is: in plain words. Entries, and texts, in memory. Labels: whether they are ahead of others; whether they are alike. Entries of an index: whether they may be: the walk. Entries of an index: whether they may be: the walk of Valid. -/
import Derived.Test.YtpeahjocimhneaaGreatDoorGD
import Derived.Test.YtpeahjocimhneaaGreatDoorGC
import Derived.Lib.SlicesCompact
import Derived.Lib.Bytealg
namespace Go.Proofs.YtpeahjocimhneaaGreatDoor
open Go.RowKit
attribute [local go_sem] bs_toList bs_size

/-- Where a series is. -/
structure En where
  labels : List Lb
  last : Int
  off : Int
  len : Int
theorem En.ext' {x y : En} (h1 : x.labels = y.labels) (h2 : x.last = y.last) (h3 : x.off = y.off) (h4 : x.len = y.len) : x = y := by
  cases x
  cases y
  simp_all
def zeroEn : En := ⟨[], 0, 0, 0⟩
/-- May it be? -/
def rightB (x : En) : Bool := decide (checkE x.labels = 0) && decide (0 ≤ x.last ∧ x.last ≤ 1125899906842624 ∧ 0 ≤ x.off ∧ x.off ≤ 1073741824 ∧ 0 ≤ x.len ∧ x.len ≤ 1073741824)
def lessL (a b : List Lb) : Bool := Op.bytesLess (keyB a) (keyB b)
/-- May entries be, behind a last one? -/
def goodFrom : Option (List Lb) → List En → Bool
  | _, [] => true
  | p, x :: l => (rightB x && (match p with | none => true | some q => lessL q x.labels)) && goodFrom (some x.labels) l
def longI (l : List En) (g : Int) : Bool := l.any fun x => decide (limitG g < (longestB x.labels : Int))
/-- May entries be? 0, or the error. -/
def validI (l : List En) (g : Int) : Int := if g < 1 ∨ 3 < g ∨ 20 < l.length then 1 else if goodFrom none l = false then 1 else if longI l g then 3 else 0
/-- All names and values. -/
def textsOf (l : List En) : List (List UInt8) := l.flatMap fun x => x.labels.flatMap fun y => [y.1, y.2]
def symI (l : List En) : List (List UInt8) := Lib.compact ((textsOf l).mergeSort fun x y => decide (x ≤ y))
/-- One of generation 1. -/
def lab1B (y : Lb) : List UInt8 := Num.fixed y.1 12 ++ Num.fixed y.2 12
def ent1B (x : En) : List UInt8 := (UInt8.ofNat x.labels.length :: x.labels.flatMap lab1B) ++ ((Num.wide (u64N x.last) ++ Num.wide (u64N x.off)) ++ Num.wide (u64N x.len))
def oneI (l : List En) : List UInt8 := Num.wide l.length ++ l.flatMap ent1B
/-- How many bytes two texts begin with. -/
def common : List UInt8 → List UInt8 → Nat
  | a :: s, b :: t => if a = b then common s t + 1 else 0
  | _, _ => 0
/-- The table of symbols. -/
def tabB (g : Int) : List UInt8 → List (List UInt8) → List UInt8
  | _, [] => []
  | last, s :: l => (if g = 3 then Num.small (common last s) ++ Num.text (s.drop (common last s)) else Num.text s) ++ tabB g s l
def placeI (sy : List (List UInt8)) (s : List UInt8) : Nat := sy.idxOf s
def lab2B (sy : List (List UInt8)) (y : Lb) : List UInt8 := Num.small (placeI sy y.1) ++ Num.small (placeI sy y.2)
def tail2B (g : Int) (a x : En) : List UInt8 :=
  if g = 3 then (Num.small (Num.zigI (x.last - a.last)).toNat ++ Num.small (Num.zigI (x.off - a.off - a.len)).toNat) ++ Num.small (u64N x.len)
  else (Num.small (u64N x.last) ++ Num.small (u64N x.off)) ++ Num.small (u64N x.len)
def ent2B (g : Int) (sy : List (List UInt8)) (a x : En) : List UInt8 := Num.small x.labels.length ++ (x.labels.flatMap (lab2B sy) ++ tail2B g a x)
def ents2B (g : Int) (sy : List (List UInt8)) : En → List En → List UInt8
  | _, [] => []
  | a, x :: l => ent2B g sy a x ++ ents2B g sy x l
/-- Entries of generations 2 and 3, but for postings. -/
def headI (l : List En) (g : Int) : List UInt8 := Num.small (symI l).length ++ (tabB g [] (symI l) ++ (Num.small l.length ++ ents2B g (symI l) zeroEn l))
/-- Labels, and where they are. -/
def pairsI (l : List En) : List (Lb × Nat) := (List.range l.length).flatMap fun i => (l.getD i zeroEn).labels.map fun z => (z, i)
/-- Who has a label. -/
def valOf (S : List (Lb × Nat)) (y : Lb) : List Nat := (S.filter fun p => decide (p.1 = y)).map fun p => p.2
def postsOf (l : List En) (y : Lb) : List Nat := valOf (pairsI l) y
def dltN : Nat → List Nat → List UInt8
  | _, [] => []
  | a, b :: l => Num.small (b - a) ++ dltN b l
/-- Which of two labels is ahead: below 0, 0, or above it. -/
def cmpLb (x y : Lb) : Int := if Lib.compareBytes x.1 y.1 ≠ 0 then Lib.compareBytes x.1 y.1 else Lib.compareBytes x.2 y.2
def sortLb (L : List Lb) : List Lb := L.mergeSort fun x y => !decide (cmpLb y x < 0)
def distL (S : List Lb) : List Lb := S.foldl (fun a y => if y ∈ a then a else a ++ [y]) []
/-- All labels, in order, each once. -/
def keysOf (l : List En) : List Lb := sortLb (distL ((pairsI l).map fun p => p.1))
def postB (l : List En) : List UInt8 := (keysOf l).flatMap fun y => Num.small (postsOf l y).length ++ dltN 0 (postsOf l y)
def moreI (l : List En) (g : Int) : List UInt8 := headI l g ++ if g = 3 then postB l else []
def bodyI (l : List En) (g : Int) : List UInt8 := if g = 1 then oneI l else moreI l g
/-- Entries as bytes; or an error. -/
def putI (l : List En) (g : Int) : List UInt8 × Int := if validI l g = 0 then (bodyI l g ++ tailB (bodyI l g), 0) else ([], validI l g)

/-- How many there are, up to a greatest number. -/
def manyN (n : Int) (most : Nat) (c : CS) : Nat × CS := if (most : Int) < n then (0, (c.1, true)) else (n.toNat, c)
def wr64' (n : Int) : Int := IntKind.i64.wrap n
def fxV (c : CS) : List UInt8 := Num.ans [] c (Num.getFixed c.1 12)
def fxN (c : CS) : CS := Num.nxt c (Num.getFixed c.1 12)
def txV (c : CS) : List UInt8 := Num.ans [] c (Num.getText c.1 48)
def txN (c : CS) : CS := Num.nxt c (Num.getText c.1 48)
def tkV (c : CS) : List UInt8 := Num.ans [] c (Num.getTake c.1 1)
def tkN (c : CS) : CS := Num.nxt c (Num.getTake c.1 1)
def labs1R : Nat → CS → List Lb × CS
  | 0, c => ([], c)
  | q + 1, c => ((fxV c, fxV (fxN c)) :: (labs1R q (fxN (fxN c))).1, (labs1R q (fxN (fxN c))).2)
def ent1R (c : CS) : En × CS :=
  if (tkN c).2 then (zeroEn, tkN c)
  else
    let m := manyN (((tkV c).getD 0 0).toNat : Int) 6 (tkN c)
    let r := labs1R m.1 m.2
    (⟨r.1, wr64' (wV r.2), wr64' (wV (wN r.2)), wr64' (wV (wN (wN r.2)))⟩, wN (wN (wN r.2)))
def symR (sy : List (List UInt8)) (c : CS) : List UInt8 × CS := if (sy.length : Int) ≤ sV c then ([], ((sN c).1, true)) else (sy.getD (sV c).toNat [], sN c)
def labs2R (sy : List (List UInt8)) : Nat → CS → List Lb × CS
  | 0, c => ([], c)
  | q + 1, c => (((symR sy c).1, (symR sy (symR sy c).2).1) :: (labs2R sy q (symR sy (symR sy c).2).2).1, (labs2R sy q (symR sy (symR sy c).2).2).2)
def ent2R (g : Int) (sy : List (List UInt8)) (a : En) (c : CS) : En × CS :=
  let m := manyN (sV c) 6 (sN c)
  let r := labs2R sy m.1 m.2
  (⟨r.1, if g = 3 then wr64' (a.last + Num.zagI (sV r.2)) else wr64' (sV r.2), if g = 3 then wr64' (wr64' (a.off + a.len) + Num.zagI (sV (sN r.2))) else wr64' (sV (sN r.2)), wr64' (sV (sN (sN r.2)))⟩, sN (sN (sN r.2)))
def tabR (g : Int) : Nat → List UInt8 → CS → List (List UInt8) × CS
  | 0, _, c => ([], c)
  | q + 1, last, c =>
    let m := if g = 3 then manyN (sV c) last.length (sN c) else (0, c)
    let s := last.take m.1 ++ txV m.2
    (s :: (tabR g q s (txN m.2)).1, (tabR g q s (txN m.2)).2)
def ents1R : Nat → CS → Option (List En) × CS
  | 0, c => (some [], c)
  | q + 1, c => if (ent1R c).2.2 then (none, (ent1R c).2) else match ents1R q (ent1R c).2 with
    | (none, d) => (none, d)
    | (some l, d) => (some ((ent1R c).1 :: l), d)
def ents2R (g : Int) (sy : List (List UInt8)) : Nat → En → CS → Option (List En) × CS
  | 0, _, c => (some [], c)
  | q + 1, a, c => if (ent2R g sy a c).2.2 then (none, (ent2R g sy a c).2) else match ents2R g sy q (ent2R g sy a c).1 (ent2R g sy a c).2 with
    | (none, d) => (none, d)
    | (some l, d) => (some ((ent2R g sy a c).1 :: l), d)
/-- The entries that bytes may be. -/
def allR (g : Int) (c : CS) : Option (List En) × CS :=
  if g = 1 then
    let m := manyN (wV c) 20 (wN c)
    ents1R m.1 m.2
  else
    let t := manyN (sV c) 240 (sN c)
    let sy := tabR g t.1 [] t.2
    let m := manyN (sV sy.2) 20 (sN sy.2)
    ents2R g sy.1 m.1 zeroEn m.2
/-- The ones that bytes are; or an error. -/
def getI (s : List UInt8) (g : Int) : List En × Int :=
  if g < 1 ∨ 3 < g then ([], 1)
  else match goodB s with
    | none => ([], 9)
    | some b => if (allR g (b, false)).2.2 = true ∨ putI ((allR g (b, false)).1.getD []) g ≠ (s, 0) then ([], 9) else ((allR g (b, false)).1.getD [], 0)

theorem allB_len {s : List UInt8} {m : Nat} (h : allB s m = true) : s.length ≤ 48 := by
  unfold allB at h
  simp only [Bool.and_eq_true, decide_eq_true_eq] at h
  exact h.2.2
theorem chk_len : ∀ (L : List Lb) (last : List UInt8), chkFrom last L = true → ∀ y ∈ L, y.1.length ≤ 48 ∧ y.2.length ≤ 48
  | [], _, _, y, hy => by cases hy
  | x :: L, last, h, y, hy => by
    unfold chkFrom at h
    simp only [Bool.and_eq_true] at h
    rcases List.mem_cons.1 hy with rfl | hy
    · exact ⟨allB_len h.2.1, allB_len h.2.2.2.1⟩
    · exact chk_len L x.1 h.2.2.2.2 y hy
theorem check_ok {L : List Lb} (h : checkE L = 0) : L.length ≤ 6 ∧ ∀ y ∈ L, y.1.length ≤ 48 ∧ y.2.length ≤ 48 := by
  unfold checkE at h
  split at h
  · rename_i h1
    simp only [Bool.and_eq_true, decide_eq_true_eq] at h1
    exact ⟨h1.2.2, chk_len L [] h1.1⟩
  · cases h
theorem good_right : ∀ (l : List En) (p : Option (List Lb)), goodFrom p l = true → ∀ x ∈ l, rightB x = true
  | [], _, _, x, hx => by cases hx
  | z :: l, p, h, x, hx => by
    unfold goodFrom at h
    simp only [Bool.and_eq_true] at h
    rcases List.mem_cons.1 hx with rfl | hx
    · exact h.1.1
    · exact good_right l _ h.2 x hx
theorem longest_of (L : List Lb) (n : Nat) (h : ∀ y ∈ L, y.1.length ≤ longestB L ∧ y.2.length ≤ longestB L) (hl : longestB L ≤ n) : ∀ y ∈ L, y.1.length ≤ n ∧ y.2.length ≤ n :=
  fun y hy => ⟨Nat.le_trans (h y hy).1 hl, Nat.le_trans (h y hy).2 hl⟩
theorem longest_fold : ∀ (L : List Lb) (n : Nat), n ≤ L.foldl (fun n x => max (max n x.1.length) x.2.length) n ∧ ∀ y ∈ L, y.1.length ≤ L.foldl (fun n x => max (max n x.1.length) x.2.length) n ∧ y.2.length ≤ L.foldl (fun n x => max (max n x.1.length) x.2.length) n
  | [], n => ⟨Nat.le_refl _, fun y hy => by cases hy⟩
  | x :: L, n => by
    obtain ⟨h1, h2⟩ := longest_fold L (max (max n x.1.length) x.2.length)
    rw [List.foldl_cons]
    refine ⟨by omega, fun y hy => ?_⟩
    rcases List.mem_cons.1 hy with rfl | hy
    · omega
    · exact h2 y hy
theorem longest_mem (L : List Lb) : ∀ y ∈ L, y.1.length ≤ longestB L ∧ y.2.length ≤ longestB L := (longest_fold L 0).2
/-- What a valid index is made of. -/
theorem valid_parts {l : List En} {g : Int} (h : validI l g = 0) : 1 ≤ g ∧ g ≤ 3 ∧ l.length ≤ 20 ∧ goodFrom none l = true ∧ ∀ x ∈ l, rightB x = true ∧ (longestB x.labels : Int) ≤ limitG g := by
  unfold validI at h
  split at h
  · cases h
  · rename_i h1
    split at h
    · cases h
    · rename_i h2
      split at h
      · cases h
      · rename_i h3
        have hg : goodFrom none l = true := by simpa using h2
        refine ⟨by omega, by omega, by omega, hg, fun x hx => ⟨good_right l none hg x hx, ?_⟩⟩
        unfold longI at h3
        by_cases hc : limitG g < (longestB x.labels : Int)
        · exact absurd (List.any_eq_true.2 ⟨x, hx, by simpa using hc⟩) h3
        · omega
theorem right_parts {x : En} (h : rightB x = true) : checkE x.labels = 0 ∧ 0 ≤ x.last ∧ x.last ≤ 1125899906842624 ∧ 0 ≤ x.off ∧ x.off ≤ 1073741824 ∧ 0 ≤ x.len ∧ x.len ≤ 1073741824 := by
  unfold rightB at h
  simp only [Bool.and_eq_true, decide_eq_true_eq] at h
  exact ⟨h.1, h.2⟩
theorem mem_compact {α : Type} [Inhabited α] [DecidableEq α] (zs : List α) (x : α) : x ∈ Lib.compact zs ↔ x ∈ zs := by
  have hat : ∀ j (h : j < zs.length), zs.toArray[j]! = zs[j] := fun j h => by simp [h]
  unfold Lib.compact Lib.compactUpTo
  rw [List.mem_map]
  constructor
  · rintro ⟨j, hj, rfl⟩
    have := List.mem_range.1 (List.mem_filter.1 hj).1
    rw [hat j this]
    exact List.getElem_mem _
  · intro hx
    obtain ⟨j, hj, rfl⟩ := List.mem_iff_getElem.1 hx
    clear hx
    induction j with
    | zero => exact ⟨0, List.mem_filter.2 ⟨List.mem_range.2 hj, by simp [Lib.keeps]⟩, hat 0 hj⟩
    | succ j ih =>
      by_cases h : zs[j + 1] = zs[j]
      · rw [h]
        exact ih (by omega)
      · refine ⟨j + 1, List.mem_filter.2 ⟨List.mem_range.2 hj, ?_⟩, hat _ hj⟩
        unfold Lib.keeps
        rw [decide_eq_true_eq]
        refine .inr ?_
        rw [hat _ hj, show j + 1 - 1 = j by omega, hat _ (by omega)]
        exact h
theorem mem_symI (l : List En) (s : List UInt8) : s ∈ symI l ↔ s ∈ textsOf l := by
  unfold symI
  rw [mem_compact, List.mem_mergeSort]
theorem place_at {sy : List (List UInt8)} {s : List UInt8} (h : s ∈ sy) : placeI sy s < sy.length ∧ sy.getD (placeI sy s) [] = s := by
  unfold placeI
  have hl : sy.idxOf s < sy.length := List.idxOf_lt_length_iff.2 h
  refine ⟨hl, ?_⟩
  rw [List.getD_eq_getElem?_getD, List.getElem?_eq_getElem hl, Option.getD_some]
  exact List.getElem_idxOf hl
theorem texts_len (l : List En) (h : ∀ x ∈ l, x.labels.length ≤ 6) : (textsOf l).length ≤ l.length * 12 := by
  unfold textsOf
  induction l with
  | nil => exact Nat.le_refl _
  | cons x l ih =>
    rw [List.flatMap_cons, List.length_append, List.length_cons]
    have h1 := ih fun y hy => h y (List.mem_cons_of_mem _ hy)
    have h2 := h x List.mem_cons_self
    have h3 : (x.labels.flatMap fun y => [y.1, y.2]).length = x.labels.length * 2 := by
      generalize x.labels = L
      induction L with
      | nil => rfl
      | cons y L ih =>
        rw [List.flatMap_cons, List.length_append, ih]
        simp
        omega
    omega
theorem compact_len_le {α : Type} [Inhabited α] [DecidableEq α] (zs : List α) : (Lib.compact zs).length ≤ zs.length := by
  unfold Lib.compact Lib.compactUpTo
  rw [List.length_map]
  have := List.length_filter_le (Lib.keeps zs.toArray) (List.range zs.length)
  rwa [List.length_range] at this
theorem common_le : ∀ s t : List UInt8, common s t ≤ s.length ∧ common s t ≤ t.length ∧ s.take (common s t) = t.take (common s t)
  | [], t => by unfold common; exact ⟨Nat.le_refl _, Nat.zero_le _, rfl⟩
  | a :: s, [] => by unfold common; exact ⟨Nat.zero_le _, Nat.le_refl _, rfl⟩
  | a :: s, b :: t => by
    unfold common
    by_cases h : a = b
    · subst h
      rw [if_pos rfl]
      obtain ⟨h1, h2, h3⟩ := common_le s t
      exact ⟨by simp; omega, by simp; omega, by rw [List.take_succ_cons, List.take_succ_cons, h3]⟩
    · rw [if_neg h]
      exact ⟨Nat.zero_le _, Nat.zero_le _, rfl⟩
end Go.Proofs.YtpeahjocimhneaaGreatDoor
namespace Go.Proofs.YtpeahjocimhneaaGreatDoor
open Go.RowKit
attribute [local go_sem] bs_toList bs_size

theorem wr64'_id (n : Int) (h1 : -9223372036854775808 ≤ n) (h2 : n ≤ 9223372036854775807) : wr64' n = n := by
  unfold wr64'
  simp [IntKind.wrap, IntKind.bits, IntKind.signed]
  omega
theorem u64N_of (n : Int) (h : 0 ≤ n) (h2 : n ≤ 1125899906842624) : ((u64N n : Nat) : Int) = n ∧ u64N n < 18446744073709551616 := by
  unfold u64N
  omega
theorem fx_put (t r : List UInt8) (h : t.length ≤ 12) : fxV (Num.fixed t 12 ++ r, false) = t ∧ fxN (Num.fixed t 12 ++ r, false) = (r, false) := by
  have e := Num.getFixed_fixed t 12 r
  have hs : Num.szN 12 = 12 := rfl
  rw [hs, List.take_of_length_le h] at e
  have hl : (Num.fixed t 12).length = 12 + 1 := by rw [Num.fixed_len, hs]
  unfold fxV fxN Num.ans Num.nxt
  simp only [Bool.false_eq_true, if_false]
  rw [e]
  exact ⟨rfl, by simp only; rw [List.drop_left' hl]⟩
theorem tx_put (t r : List UInt8) (h : t.length ≤ 48) : txV (Num.text t ++ r, false) = t ∧ txN (Num.text t ++ r, false) = (r, false) := by
  have e := Num.getText_text t 48 (by omega) (by omega) r
  unfold txV txN Num.ans Num.nxt
  simp only [Bool.false_eq_true, if_false]
  rw [e]
  exact ⟨rfl, by simp only; rw [List.drop_left' rfl]⟩
theorem tk_put (b : UInt8) (r : List UInt8) : tkV (b :: r, false) = [b] ∧ tkN (b :: r, false) = (r, false) := by
  have e : Num.getTake (b :: r) 1 = some ((b :: r).take 1, 1) := Num.getTake_some (b :: r) 1 (by simp)
  unfold tkV tkN Num.ans Num.nxt
  simp only [Bool.false_eq_true, if_false]
  rw [e]
  exact ⟨rfl, rfl⟩
theorem labs1R_put : ∀ (L : List Lb) (r : List UInt8), (∀ y ∈ L, y.1.length ≤ 12 ∧ y.2.length ≤ 12) → labs1R L.length (L.flatMap lab1B ++ r, false) = (L, (r, false))
  | [], r, _ => rfl
  | y :: L, r, h => by
    obtain ⟨h1, h2⟩ := h y List.mem_cons_self
    rw [List.flatMap_cons, List.append_assoc, List.length_cons, labs1R]
    unfold lab1B
    rw [List.append_assoc, (fx_put _ _ h1).1, (fx_put _ _ h1).2, (fx_put _ _ h2).1, (fx_put _ _ h2).2]
    have := labs1R_put L r fun z hz => h z (List.mem_cons_of_mem _ hz)
    unfold lab1B at this
    rw [this]
theorem many_ok (n : Int) (most : Nat) (c : CS) (_h0 : 0 ≤ n) (h : n ≤ most) : manyN n most c = (n.toNat, c) := by
  unfold manyN
  rw [if_neg (by omega)]
theorem ent1R_put (x : En) (r : List UInt8) (h : rightB x = true) (hl : (longestB x.labels : Int) ≤ 12) : ent1R (ent1B x ++ r, false) = (x, (r, false)) := by
  obtain ⟨h1, h2, h3, h4, h5, h6, h7⟩ := right_parts h
  obtain ⟨k1, _⟩ := check_ok h1
  have hy := longest_of x.labels 12 (longest_mem x.labels) (by omega)
  have hn : ((UInt8.ofNat x.labels.length).toNat : Int) = x.labels.length := by rw [Num.ofNat_toNat _ (by omega)]
  obtain ⟨a1, a2⟩ := u64N_of x.last h2 h3
  obtain ⟨b1, b2⟩ := u64N_of x.off h4 (by omega)
  obtain ⟨c1, c2⟩ := u64N_of x.len h6 (by omega)
  unfold ent1R ent1B
  simp only [List.append_assoc, List.cons_append]
  rw [(tk_put _ _).1, (tk_put _ _).2]
  simp only [Bool.false_eq_true, if_false]
  rw [show ([UInt8.ofNat x.labels.length] : List UInt8).getD 0 0 = UInt8.ofNat x.labels.length from rfl, hn, many_ok _ _ _ (by omega) (by omega)]
  simp only [Int.toNat_natCast]
  rw [labs1R_put _ _ hy]
  simp only
  rw [wV_wide _ _ a2, wN_wide _ _ a2, wV_wide _ _ b2, wN_wide _ _ b2, wV_wide _ _ c2, wN_wide _ _ c2, a1, b1, c1, wr64'_id _ (by omega) (by omega), wr64'_id _ (by omega) (by omega), wr64'_id _ (by omega) (by omega)]
theorem ents1R_put : ∀ (l : List En) (r : List UInt8), (∀ x ∈ l, rightB x = true ∧ (longestB x.labels : Int) ≤ 12) → ents1R l.length (l.flatMap ent1B ++ r, false) = (some l, (r, false))
  | [], r, _ => rfl
  | x :: l, r, h => by
    obtain ⟨h1, h2⟩ := h x List.mem_cons_self
    rw [List.flatMap_cons, List.append_assoc, List.length_cons, ents1R, ent1R_put x _ h1 h2]
    simp only [Bool.false_eq_true, if_false]
    rw [ents1R_put l r fun z hz => h z (List.mem_cons_of_mem _ hz)]
theorem tabR_put (g : Int) : ∀ (sy : List (List UInt8)) (last r : List UInt8), (∀ s ∈ sy, s.length ≤ 48) → last.length ≤ 48 → tabR g sy.length last (tabB g last sy ++ r, false) = (sy, (r, false))
  | [], _, r, _, _ => rfl
  | s :: sy, last, r, h, hl => by
    have hs := h s List.mem_cons_self
    obtain ⟨k1, k2, k3⟩ := common_le last s
    rw [tabB, List.append_assoc, List.length_cons, tabR]
    by_cases hg : g = 3
    · rw [if_pos hg, if_pos hg, List.append_assoc, sV_small _ _ (by omega), sN_small _ _ (by omega), many_ok _ _ _ (by omega) (by omega)]
      simp only [Int.toNat_natCast]
      rw [(tx_put _ _ (by rw [List.length_drop]; omega)).1, (tx_put _ _ (by rw [List.length_drop]; omega)).2, k3, List.take_append_drop, tabR_put g sy s r (fun z hz => h z (List.mem_cons_of_mem _ hz)) hs]
    · rw [if_neg hg, if_neg hg]
      simp only [List.take_zero, List.nil_append]
      rw [(tx_put _ _ hs).1, (tx_put _ _ hs).2, tabR_put g sy s r (fun z hz => h z (List.mem_cons_of_mem _ hz)) hs]
theorem symR_put {sy : List (List UInt8)} {s : List UInt8} (h : s ∈ sy) (hl : sy.length ≤ 100000) (r : List UInt8) : symR sy (Num.small (placeI sy s) ++ r, false) = (s, (r, false)) := by
  obtain ⟨h1, h2⟩ := place_at h
  unfold symR
  rw [sV_small _ _ (by omega), sN_small _ _ (by omega), if_neg (by omega), Int.toNat_natCast, h2]
theorem labs2R_put (sy : List (List UInt8)) (hl : sy.length ≤ 100000) : ∀ (L : List Lb) (r : List UInt8), (∀ y ∈ L, y.1 ∈ sy ∧ y.2 ∈ sy) → labs2R sy L.length (L.flatMap (lab2B sy) ++ r, false) = (L, (r, false))
  | [], r, _ => rfl
  | y :: L, r, h => by
    obtain ⟨h1, h2⟩ := h y List.mem_cons_self
    rw [List.flatMap_cons, List.append_assoc, List.length_cons, labs2R]
    have e : lab2B sy y = Num.small (placeI sy y.1) ++ Num.small (placeI sy y.2) := rfl
    rw [e, List.append_assoc, symR_put h1 hl]
    simp only
    rw [symR_put h2 hl]
    simp only
    rw [labs2R_put sy hl L r fun z hz => h z (List.mem_cons_of_mem _ hz)]
/-- The numbers of an entry are such as one may have. -/
def numsOk (x : En) : Prop := 0 ≤ x.last ∧ x.last ≤ 1125899906842624 ∧ 0 ≤ x.off ∧ x.off ≤ 1073741824 ∧ 0 ≤ x.len ∧ x.len ≤ 1073741824
theorem ent2R_put (g : Int) (sy : List (List UInt8)) (hsl : sy.length ≤ 100000) (a x : En) (r : List UInt8) (ha : numsOk a) (h : rightB x = true) (hy : ∀ y ∈ x.labels, y.1 ∈ sy ∧ y.2 ∈ sy) : ent2R g sy a (ent2B g sy a x ++ r, false) = (x, (r, false)) := by
  obtain ⟨h1, h2, h3, h4, h5, h6, h7⟩ := right_parts h
  obtain ⟨k1, _⟩ := check_ok h1
  obtain ⟨p1, p2, p3, p4, p5, p6⟩ := ha
  obtain ⟨a1, a2⟩ := u64N_of x.last h2 h3
  obtain ⟨b1, b2⟩ := u64N_of x.off h4 (by omega)
  obtain ⟨c1, c2⟩ := u64N_of x.len h6 (by omega)
  have z1 := Num.zig_bd (x.last - a.last) (by omega) (by omega)
  have z2 := Num.zig_bd (x.off - a.off - a.len) (by omega) (by omega)
  have y1 : ((Num.zigI (x.last - a.last)).toNat : Int) = Num.zigI (x.last - a.last) := Int.toNat_of_nonneg z1.1
  have y2 : ((Num.zigI (x.off - a.off - a.len)).toNat : Int) = Num.zigI (x.off - a.off - a.len) := Int.toNat_of_nonneg z2.1
  unfold ent2R ent2B tail2B
  by_cases hg : g = 3
  · simp only [if_pos hg, List.append_assoc]
    rw [sV_small _ _ (by omega), sN_small _ _ (by omega), many_ok _ _ _ (by omega) (by omega)]
    simp only [Int.toNat_natCast]
    rw [labs2R_put sy hsl _ _ hy]
    simp only
    rw [sV_small _ _ (by omega), sN_small _ _ (by omega), sV_small _ _ (by omega), sN_small _ _ (by omega), sV_small _ _ c2, sN_small _ _ c2, y1, y2, Num.zag_zig, Num.zag_zig, c1,
      show a.last + (x.last - a.last) = x.last by omega, wr64'_id x.last (by omega) (by omega), wr64'_id (a.off + a.len) (by omega) (by omega), show a.off + a.len + (x.off - a.off - a.len) = x.off by omega, wr64'_id x.off (by omega) (by omega), wr64'_id x.len (by omega) (by omega)]
  · simp only [if_neg hg, List.append_assoc]
    rw [sV_small _ _ (by omega), sN_small _ _ (by omega), many_ok _ _ _ (by omega) (by omega)]
    simp only [Int.toNat_natCast]
    rw [labs2R_put sy hsl _ _ hy]
    simp only
    rw [sV_small _ _ a2, sN_small _ _ a2, sV_small _ _ b2, sN_small _ _ b2, sV_small _ _ c2, sN_small _ _ c2, a1, b1, c1, wr64'_id x.last (by omega) (by omega), wr64'_id x.off (by omega) (by omega), wr64'_id x.len (by omega) (by omega)]
theorem right_nums {x : En} (h : rightB x = true) : numsOk x := (right_parts h).2
theorem ents2R_put (g : Int) (sy : List (List UInt8)) (hsl : sy.length ≤ 100000) : ∀ (l : List En) (a : En) (r : List UInt8), numsOk a → (∀ x ∈ l, rightB x = true ∧ ∀ y ∈ x.labels, y.1 ∈ sy ∧ y.2 ∈ sy) → ents2R g sy l.length a (ents2B g sy a l ++ r, false) = (some l, (r, false))
  | [], _, r, _, _ => rfl
  | x :: l, a, r, ha, h => by
    obtain ⟨h1, h2⟩ := h x List.mem_cons_self
    rw [ents2B, List.append_assoc, List.length_cons, ents2R, ent2R_put g sy hsl a x _ ha h1 h2]
    simp only [Bool.false_eq_true, if_false]
    rw [ents2R_put g sy hsl l x r (right_nums h1) fun z hz => h z (List.mem_cons_of_mem _ hz)]
theorem texts_mem {l : List En} {x : En} {y : Lb} (hx : x ∈ l) (hy : y ∈ x.labels) : y.1 ∈ textsOf l ∧ y.2 ∈ textsOf l := by
  unfold textsOf
  constructor
  · exact List.mem_flatMap.2 ⟨x, hx, List.mem_flatMap.2 ⟨y, hy, by simp⟩⟩
  · exact List.mem_flatMap.2 ⟨x, hx, List.mem_flatMap.2 ⟨y, hy, by simp⟩⟩
theorem texts_short {l : List En} (h : ∀ x ∈ l, rightB x = true) : ∀ s ∈ textsOf l, s.length ≤ 48 := by
  intro s hs
  unfold textsOf at hs
  obtain ⟨x, hx, hs⟩ := List.mem_flatMap.1 hs
  obtain ⟨y, hy, hs⟩ := List.mem_flatMap.1 hs
  have := (check_ok (right_parts (h x hx)).1).2 y hy
  simp only [List.mem_cons, List.not_mem_nil, or_false] at hs
  rcases hs with rfl | rfl
  · exact this.1
  · exact this.2
theorem sym_len {l : List En} (h : ∀ x ∈ l, x.labels.length ≤ 6) (h2 : l.length ≤ 20) : (symI l).length ≤ 240 := by
  have h3 := texts_len l h
  have h4 := compact_len_le ((textsOf l).mergeSort fun x y => decide (x ≤ y))
  rw [List.length_mergeSort] at h4
  unfold symI
  omega
/-- What is put is read. -/
theorem allR_put {l : List En} {g : Int} (h : validI l g = 0) : ∃ r, allR g (bodyI l g, false) = (some l, (r, false)) := by
  obtain ⟨h1, h2, h3, _, h5⟩ := valid_parts h
  have hr : ∀ x ∈ l, rightB x = true := fun x hx => (h5 x hx).1
  unfold allR bodyI
  by_cases hg : g = 1
  · subst hg
    rw [if_pos rfl, if_pos rfl]
    unfold oneI
    rw [wV_wide _ _ (by omega), wN_wide _ _ (by omega), many_ok _ _ _ (by omega) (by omega)]
    simp only [Int.toNat_natCast]
    have := ents1R_put l [] fun x hx => ⟨hr x hx, by have := (h5 x hx).2; simpa [limitG] using this⟩
    rw [List.append_nil] at this
    exact ⟨[], this⟩
  · rw [if_neg hg, if_neg hg]
    have hsl := sym_len (fun x hx => (check_ok (right_parts (hr x hx)).1).1) h3
    have hss : ∀ s ∈ symI l, s.length ≤ 48 := fun s hs => texts_short hr s ((mem_symI l s).1 hs)
    have hyy : ∀ x ∈ l, rightB x = true ∧ ∀ y ∈ x.labels, y.1 ∈ symI l ∧ y.2 ∈ symI l := fun x hx => ⟨hr x hx, fun y hy => ⟨(mem_symI l _).2 (texts_mem hx hy).1, (mem_symI l _).2 (texts_mem hx hy).2⟩⟩
    unfold moreI headI
    simp only [List.append_assoc]
    rw [sV_small _ _ (by omega), sN_small _ _ (by omega), many_ok _ _ _ (by omega) (by omega)]
    simp only [Int.toNat_natCast]
    rw [tabR_put g _ _ _ hss (by simp)]
    simp only
    rw [sV_small _ _ (by omega), sN_small _ _ (by omega), many_ok _ _ _ (by omega) (by omega)]
    simp only [Int.toNat_natCast]
    exact ⟨_, ents2R_put g (symI l) (by omega) l zeroEn _ ⟨by simp [zeroEn], by simp [zeroEn], by simp [zeroEn], by simp [zeroEn], by simp [zeroEn], by simp [zeroEn]⟩ hyy⟩
theorem putI_ok {l : List En} {g : Int} (h : validI l g = 0) : putI l g = (bodyI l g ++ tailB (bodyI l g), 0) := by
  unfold putI
  rw [if_pos h]
theorem putI_bad {l : List En} {g : Int} (h : validI l g ≠ 0) : putI l g = ([], validI l g) := by
  unfold putI
  rw [if_neg h]
/-- What is put is got again. -/
theorem getI_put {l : List En} {g : Int} (h : validI l g = 0) : getI (putI l g).1 g = (l, 0) := by
  obtain ⟨h1, h2, _⟩ := valid_parts h
  obtain ⟨r, hr⟩ := allR_put h
  unfold getI
  rw [if_neg (by omega), putI_ok h]
  simp only
  rw [goodB_tail]
  simp only
  rw [hr]
  simp only [Option.getD_some]
  rw [putI_ok h, if_neg (by simp)]
/-- Nothing else is got. -/
theorem getI_some {s : List UInt8} {g : Int} (h : (getI s g).2 = 0) : putI (getI s g).1 g = (s, 0) ∧ validI (getI s g).1 g = 0 := by
  have key : putI (getI s g).1 g = (s, 0) := by
    unfold getI at h ⊢
    split at h
    · cases h
    · rename_i h1
      rw [if_neg h1]
      split at h
      · cases h
      · rename_i b hb
        split at h
        · cases h
        · rename_i h2
          rw [if_neg h2]
          show putI ((allR g (b, false)).1.getD []) g = (s, 0)
          by_cases hp : putI ((allR g (b, false)).1.getD []) g = (s, 0)
          · exact hp
          · exact absurd (.inr hp) h2
  refine ⟨key, ?_⟩
  by_cases hv : validI (getI s g).1 g = 0
  · exact hv
  · rw [putI_bad hv] at key
    exact absurd (Prod.mk.inj key).2 hv
theorem getI_none {s : List UInt8} {g : Int} (h : (getI s g).2 ≠ 0) : (getI s g).1 = [] := by
  unfold getI at h ⊢
  split
  · rfl
  · rename_i h1
    rw [if_neg h1] at h
    split
    · rfl
    · rename_i b hb
      rw [hb] at h
      simp only at h
      split
      · rfl
      · rename_i h2
        rw [if_neg h2] at h
        exact absurd rfl h
theorem putI_inj {l m : List En} {g : Int} (h1 : validI l g = 0) (h2 : validI m g = 0) (h : (putI l g).1 = (putI m g).1) : l = m := by
  have e1 := getI_put h1
  rw [h, getI_put h2] at e1
  exact ((Prod.mk.inj e1).1).symm
theorem good_take : ∀ (l : List En) (p : Option (List Lb)) (n : Nat), goodFrom p l = true → goodFrom p (l.take n) = true
  | [], _, n, _ => by simp [goodFrom]
  | x :: l, p, 0, _ => rfl
  | x :: l, p, n + 1, h => by
    rw [List.take_succ_cons]
    unfold goodFrom at h ⊢
    rw [Bool.and_eq_true] at h ⊢
    exact ⟨h.1, good_take l _ n h.2⟩
theorem valid_take {l : List En} {g : Int} (n : Nat) (h : validI l g = 0) : validI (l.take n) g = 0 := by
  obtain ⟨h1, h2, h3, h4, h5⟩ := valid_parts h
  have hl : (l.take n).length ≤ l.length := List.length_take_le' _ _
  unfold validI
  rw [if_neg (by omega), if_neg (by rw [good_take l none n h4]; simp), if_neg]
  unfold longI
  rw [List.any_eq_true]
  rintro ⟨x, hx, e⟩
  have := (h5 x (List.mem_of_mem_take hx)).2
  simp only [decide_eq_true_eq] at e
  omega
theorem text_inj {s t a b : List UInt8} (h1 : s.length ≤ 1048576) (h2 : t.length ≤ 1048576) (h : Num.text s ++ a = Num.text t ++ b) : s = t ∧ a = b := by
  have e1 := Num.getText_text s 1048576 (by omega) (by omega) a
  have e2 := Num.getText_text t 1048576 (by omega) (by omega) b
  rw [h, e2] at e1
  have e3 := (Prod.mk.inj (Option.some.inj e1)).1
  subst e3
  exact ⟨rfl, List.append_cancel_left h⟩
theorem key_inj : ∀ (L M : List Lb), (∀ y ∈ L, y.1.length ≤ 1048576 ∧ y.2.length ≤ 1048576) → (∀ y ∈ M, y.1.length ≤ 1048576 ∧ y.2.length ≤ 1048576) → L.length = M.length → keyB L = keyB M → L = M
  | [], [], _, _, _, _ => rfl
  | [], _ :: _, _, _, h, _ => by cases h
  | _ :: _, [], _, _, h, _ => by cases h
  | x :: L, y :: M, h1, h2, h3, h4 => by
    obtain ⟨a1, a2⟩ := h1 x List.mem_cons_self
    obtain ⟨b1, b2⟩ := h2 y List.mem_cons_self
    unfold keyB at h4
    rw [List.flatMap_cons, List.flatMap_cons, List.append_assoc, List.append_assoc] at h4
    obtain ⟨e1, h5⟩ := text_inj a1 b1 h4
    obtain ⟨e2, h6⟩ := text_inj a2 b2 h5
    rw [key_inj L M (fun z hz => h1 z (List.mem_cons_of_mem _ hz)) (fun z hz => h2 z (List.mem_cons_of_mem _ hz)) (by simpa using h3) h6, Prod.ext e1 e2]
end Go.Proofs.YtpeahjocimhneaaGreatDoor
namespace Go.Proofs.YtpeahjocimhneaaGreatDoor
open Go.RowKit Go.Maps Go.WideMaps
attribute [local go_sem] bs_toList bs_size

/-- Its numbers are such as they hold. -/
def En.ok (x : En) : Prop := (-9223372036854775808 ≤ x.last ∧ x.last ≤ 9223372036854775807) ∧ (-9223372036854775808 ≤ x.off ∧ x.off ≤ 9223372036854775807) ∧ (-9223372036854775808 ≤ x.len ∧ x.len ≤ 9223372036854775807)
/-- The cells of an entry. -/
def enC (lv : Value) (x : En) : List Value := [lv, .int .i64 x.last, .int .i64 x.off, .int .i64 x.len]
def enV (lv : Value) (x : En) : Value := .agg #[lv, .int .i64 x.last, .int .i64 x.off, .int .i64 x.len]
def EntAt (w : World) (b o : Nat) (x : En) : Prop :=
  ∃ a c, w.cell? ⟨b, o, none⟩ = some (.slice a x.labels.length c) ∧ LabsAt w (.slice a x.labels.length c) x.labels ∧ w.cell? ⟨b, o + 1, none⟩ = some (.int .i64 x.last) ∧ w.cell? ⟨b, o + 2, none⟩ = some (.int .i64 x.off) ∧ w.cell? ⟨b, o + 3, none⟩ = some (.int .i64 x.len)
theorem EntAt.below {w w' : World} {b o : Nat} {x : En} (h : EntAt w b o x) (hb : Below w.heap.size w w') : EntAt w' b o x := by
  obtain ⟨a, c, h0, h1, h2, h3, h4⟩ := h
  exact ⟨a, c, (Below.cell hb (World.block_lt_of_cell? _ _ h0)).trans h0, h1.below hb, (Below.cell hb (World.block_lt_of_cell? _ _ h2)).trans h2, (Below.cell hb (World.block_lt_of_cell? _ _ h3)).trans h3, (Below.cell hb (World.block_lt_of_cell? _ _ h4)).trans h4⟩
/-- A slice of entries. -/
def EntsAt (w : World) (v : Value) (E : List En) : Prop :=
  ∃ a c, v = .slice a E.length c ∧ (a = none → c = 0) ∧ E.length ≤ 100000 ∧ E.length ≤ c ∧ ∀ (i : Nat) x, E[i]? = some x → x.ok ∧ ∃ b o, a = some ⟨b, o, none⟩ ∧ EntAt w b (o + i * 4) x
theorem EntsAt.below {w w' : World} {v : Value} {E : List En} (h : EntsAt w v E) (hb : Below w.heap.size w w') : EntsAt w' v E := by
  obtain ⟨a, c, h1, h2, h3, h4, h5⟩ := h
  refine ⟨a, c, h1, h2, h3, h4, fun i x hx => ?_⟩
  obtain ⟨h6, b, o, h7, h8⟩ := h5 i x hx
  exact ⟨h6, b, o, h7, h8.below hb⟩
theorem EntsAt.take {w : World} {a : Option Addr} {n c : Nat} {E : List En} (h : EntsAt w (.slice a n c) E) {m : Nat} (hm : m ≤ n) : EntsAt w (.slice a m c) (E.take m) := by
  obtain ⟨a', c', h1, h2, h3, h4, h5⟩ := h
  obtain ⟨rfl, rfl, rfl⟩ := Value.slice.inj h1
  have hl : (E.take m).length = m := List.length_take_of_le hm
  refine ⟨a, c, by rw [hl], h2, by omega, by omega, fun i x hx => ?_⟩
  have hi : i < m := by
    have := (List.getElem?_eq_some_iff.1 hx).1
    omega
  rw [List.getElem?_take_of_lt hi] at hx
  exact h5 i x hx
theorem ents_nil (w : World) : EntsAt w (.slice none 0 0) [] := ⟨none, 0, rfl, fun _ => rfl, by simp, by simp, fun i x hx => by simp at hx⟩
/-- A slice of texts. -/
def StrsAt (w : World) (v : Value) (S : List (List UInt8)) : Prop :=
  ∃ a c, v = .slice a S.length c ∧ (a = none → c = 0) ∧ S.length ≤ 1048576 ∧ ∀ (i : Nat) s, S[i]? = some s → s.length ≤ 1048576 ∧ ∃ b o, a = some ⟨b, o, none⟩ ∧ w.cell? ⟨b, o + i, none⟩ = some (.string (bs s))
theorem StrsAt.below {w w' : World} {v : Value} {S : List (List UInt8)} (h : StrsAt w v S) (hb : Below w.heap.size w w') : StrsAt w' v S := by
  obtain ⟨a, c, h1, h2, h3, h4⟩ := h
  refine ⟨a, c, h1, h2, h3, fun i s hs => ?_⟩
  obtain ⟨h5, b, o, h6, h7⟩ := h4 i s hs
  exact ⟨h5, b, o, h6, (Below.cell hb (World.block_lt_of_cell? _ _ h7)).trans h7⟩
theorem strs_nil (w : World) : StrsAt w (.slice none 0 0) [] := ⟨none, 0, rfl, fun _ => rfl, by simp, fun i x hx => by simp at hx⟩
/-- Texts as cells. -/
def strC (S : List (List UInt8)) : List Value := S.map fun s => .string (bs s)
theorem strs_of_own {w : World} {B n : Nat} {v : Value} {S : List (List UInt8)} (h : w.ownsRow B 9 1 v n (strC S)) (hn : S.length = n) (hl : S.length ≤ 1048576) (hb : ∀ s ∈ S, s.length ≤ 1048576) : StrsAt w v S := by
  subst hn
  rcases h.2 with ⟨e, e0⟩ | ⟨g, cap, cur, e, _⟩
  · refine ⟨none, 0, by rw [e, e0], fun _ => rfl, hl, fun i x hx => ?_⟩
    rw [List.length_eq_zero_iff.1 e0] at hx
    simp at hx
  · refine ⟨some ⟨g, 0, none⟩, cap, e, (fun e => by cases e), hl, fun i x hx => ⟨hb x (List.mem_of_getElem? hx), g, 0, rfl, ?_⟩⟩
    have h1 := h.cells (g := g) (by rw [e]; rfl) i (.string (bs x)) (by unfold strC; rw [List.getElem?_map, hx]; rfl)
    rw [add_at] at h1
    rw [Nat.zero_add]
    exact h1
end Go.Proofs.YtpeahjocimhneaaGreatDoor
namespace Go.Proofs.YtpeahjocimhneaaGreatDoor
open Go.RowKit
attribute [local go_sem] bs_toList bs_size

set_option maxRecDepth 100000 in
theorem LLess_any (L M : List Lb) (v u : Value) (w : World) (h1 : LabsAt w v L) (h2 : LabsAt w u M) :
    Calls Tryz.prog 43 #[v, u] w fun e w' => e = .returned (.bool (lessL L M)) ∧ Below w.heap.size w w' := by
  have q1 := Lib.hid (Key_any L v w h1)
  have q2 := Lib.hid (fun W h => Key_any M u W h)
  have HL := Lib.hid (show lessL L M = Op.bytesLess (keyB L) (keyB M) from rfl)
  generalize lessL L M = R at *
  generalize keyB L = a at *
  generalize keyB M = b at *
  go_enter Tryz.func43, Tryz.ntmps43
  go_wp2_with fail
  refine q1.out.mono ?_
  rintro e w1 ⟨rfl, b1⟩
  have h3 := h2.below b1
  go_wp2_with fail
  refine (q2.out _ h3).mono ?_
  rintro e w2 ⟨rfl, b2⟩
  go_wp2
  go_ret
  exact ⟨by rw [HL.out]; rfl, b1.trans (b2.mono b1.size)⟩
/-- Are labels alike? -/
def sameL (L M : List Lb) : Bool := decide (L.length = M.length) && (keyB L == keyB M)
theorem sameL_iff (L M : List Lb) (h1 : ∀ y ∈ L, y.1.length ≤ 1048576 ∧ y.2.length ≤ 1048576) (h2 : ∀ y ∈ M, y.1.length ≤ 1048576 ∧ y.2.length ≤ 1048576) : sameL L M = true ↔ L = M := by
  unfold sameL
  simp only [Bool.and_eq_true, decide_eq_true_eq, beq_iff_eq]
  constructor
  · rintro ⟨e1, e2⟩
    exact key_inj L M h1 h2 e1 e2
  · rintro rfl
    exact ⟨rfl, rfl⟩
set_option maxRecDepth 100000 in
theorem LSame_any (L M : List Lb) (v u : Value) (w : World) (h1 : LabsAt w v L) (h2 : LabsAt w u M) :
    Calls Tryz.prog 50 #[v, u] w fun e w' => e = .returned (.bool (sameL L M)) ∧ Below w.heap.size w w' := by
  have q1 := Lib.hid (Key_any L v w h1)
  have q2 := Lib.hid (fun W h => Key_any M u W h)
  have HL := Lib.hid (show sameL L M = (decide (L.length = M.length) && (keyB L == keyB M)) from rfl)
  generalize sameL L M = R at *
  obtain ⟨a, c, rfl, _⟩ := id h1
  obtain ⟨a', c', rfl, _⟩ := id h2
  generalize keyB L = s at *
  generalize keyB M = t at *
  by_cases hl : L.length = M.length
  · have f1 : ((L.length : Int) == (M.length : Int)) = true := by simp [hl]
    have HR := Lib.hid (show R = (s == t) by rw [HL.out, hl]; simp)
    have HLL := Lib.hid hl
    clear HL hl
    go_enter Tryz.func50, Tryz.ntmps50
    go_wp2_with fail
    refine q1.out.mono ?_
    rintro e w1 ⟨rfl, b1⟩
    have h3 := h2.below b1
    go_wp2_with fail
    refine (q2.out _ h3).mono ?_
    rintro e w2 ⟨rfl, b2⟩
    go_wp2
    go_ret
    exact ⟨by rw [HR.out]; rfl, b1.trans (b2.mono b1.size)⟩
  · have f1 : ((L.length : Int) == (M.length : Int)) = false := by simpa using (fun e => hl (by omega) : ¬ (L.length : Int) = (M.length : Int))
    have f2 : (L.length == M.length) = false := by simpa using hl
    have HR := Lib.hid (show R = false by rw [HL.out, decide_eq_false hl]; rfl)
    clear HL hl
    go_enter Tryz.func50, Tryz.ntmps50
    go_wp2
    go_ret
    exact ⟨by rw [HR.out]; rfl, Below.refl _ _⟩
end Go.Proofs.YtpeahjocimhneaaGreatDoor
namespace Go.Proofs.YtpeahjocimhneaaGreatDoor
open Go.RowKit
attribute [local go_sem] bs_toList bs_size

set_option maxRecDepth 100000 in
set_option maxHeartbeats 1000000 in
theorem right_any (x : En) (lv : Value) (w : World) (h : LabsAt w lv x.labels) :
    Calls Tryz.prog 42 #[enV lv x] w fun e w' => e = .returned (.bool (rightB x)) ∧ Below w.heap.size w w' := by
  have HR := Lib.hid (show rightB x = (decide (checkE x.labels = 0) && decide (0 ≤ x.last ∧ x.last ≤ 1125899906842624 ∧ 0 ≤ x.off ∧ x.off ≤ 1073741824 ∧ 0 ≤ x.len ∧ x.len ≤ 1073741824)) from rfl)
  obtain ⟨a, c, rfl, _⟩ := id h
  obtain ⟨L, la, of, le⟩ := x
  simp only at HR h
  rw [show enV (.slice a L.length c) ⟨L, la, of, le⟩ = .agg #[.slice a L.length c, .int .i64 la, .int .i64 of, .int .i64 le] from rfl]
  have b0 := one_alloc w (.cells #[.slice a L.length c, .int .i64 la, .int .i64 of, .int .i64 le] 59)
  have k0 := Blk.new w 59 #[.slice a L.length c, .int .i64 la, .int .i64 of, .int .i64 le]
  obtain ⟨⟨c0, c1, c2, c3⟩, _⟩ := cells4 k0
  have q := Lib.hid (Check_any L _ _ (h.below b0))
  generalize rightB ⟨L, la, of, le⟩ = R at *
  generalize checkE L = ce at *
  clear h
  go_enter Tryz.func42, Tryz.ntmps42
  go_wp2_with fail
  refine q.out.mono ?_
  rintro e w1 ⟨rfl, b1⟩
  have k1 := Blk.below k0 b1 k0.lt
  have B1 := b0.trans (b1.mono b0.size)
  obtain ⟨⟨d0, d1, d2, d3⟩, _⟩ := cells4 k1
  clear q k0 k1 c0 c1 c2 c3 b0 b1
  by_cases t0 : ce = 0
  · have f0 : (ce == 0) = true := by simpa using t0
    by_cases t1 : 0 ≤ la
    · have f1 : decide (0 ≤ la) = true := by simpa using t1
      by_cases t2 : la ≤ 1125899906842624
      · have f2 : decide (la ≤ 1125899906842624) = true := by simpa using t2
        by_cases t3 : 0 ≤ of
        · have f3 : decide (0 ≤ of) = true := by simpa using t3
          by_cases t4 : of ≤ 1073741824
          · have f4 : decide (of ≤ 1073741824) = true := by simpa using t4
            by_cases t5 : 0 ≤ le
            · have f5 : decide (0 ≤ le) = true := by simpa using t5
              by_cases t6 : le ≤ 1073741824
              · have f6 : decide (le ≤ 1073741824) = true := by simpa using t6
                have HE := Lib.hid (show R = true by rw [HR.out]; simp; omega)
                clear HR t0 t1 t2 t3 t4 t5 t6
                go_wp2
                go_ret
                exact ⟨by rw [HE.out]; rfl, B1⟩
              · have f6 : decide (le ≤ 1073741824) = false := by simpa using t6
                have HE := Lib.hid (show R = false by rw [HR.out]; simp; omega)
                clear HR t0 t1 t2 t3 t4 t5 t6
                go_wp2
                go_ret
                exact ⟨by rw [HE.out]; rfl, B1⟩
            · have f5 : decide (0 ≤ le) = false := by simpa using t5
              have HE := Lib.hid (show R = false by rw [HR.out]; simp; omega)
              clear HR t0 t1 t2 t3 t4 t5
              go_wp2
              go_ret
              exact ⟨by rw [HE.out]; rfl, B1⟩
          · have f4 : decide (of ≤ 1073741824) = false := by simpa using t4
            have HE := Lib.hid (show R = false by rw [HR.out]; simp; omega)
            clear HR t0 t1 t2 t3 t4
            go_wp2
            go_ret
            exact ⟨by rw [HE.out]; rfl, B1⟩
        · have f3 : decide (0 ≤ of) = false := by simpa using t3
          have HE := Lib.hid (show R = false by rw [HR.out]; simp; omega)
          clear HR t0 t1 t2 t3
          go_wp2
          go_ret
          exact ⟨by rw [HE.out]; rfl, B1⟩
      · have f2 : decide (la ≤ 1125899906842624) = false := by simpa using t2
        have HE := Lib.hid (show R = false by rw [HR.out]; simp; omega)
        clear HR t0 t1 t2
        go_wp2
        go_ret
        exact ⟨by rw [HE.out]; rfl, B1⟩
    · have f1 : decide (0 ≤ la) = false := by simpa using t1
      have HE := Lib.hid (show R = false by rw [HR.out]; simp; omega)
      clear HR t0 t1
      go_wp2
      go_ret
      exact ⟨by rw [HE.out]; rfl, B1⟩
  · have f0 : (ce == 0) = false := by simpa using t0
    have HE := Lib.hid (show R = false by rw [HR.out]; simp; omega)
    clear HR t0
    go_wp2
    go_ret
    exact ⟨by rw [HE.out]; rfl, B1⟩
end Go.Proofs.YtpeahjocimhneaaGreatDoor
namespace Go.Proofs.YtpeahjocimhneaaGreatDoor
open Go.RowKit
attribute [local go_sem] bs_toList bs_size

set_option maxRecDepth 100000 in
set_option maxHeartbeats 1000000 in
theorem long1_any (x : En) (lv : Value) (g : Int) (p : Addr) (w : World) (h : LabsAt w lv x.labels) (hg : w.cell? p = some (.int .i64 g)) (h1 : -9223372036854775808 ≤ g) (h2 : g ≤ 9223372036854775807) :
    Calls Tryz.prog 45 #[enV lv x, .pointer (some p)] w fun e w' => e = .returned (.bool (decide (limitG g < (longestB x.labels : Int)))) ∧ Below w.heap.size w w' := by
  obtain ⟨a, c, rfl, _⟩ := id h
  obtain ⟨L, la, of, le⟩ := x
  simp only at h ⊢
  rw [show enV (.slice a L.length c) ⟨L, la, of, le⟩ = .agg #[.slice a L.length c, .int .i64 la, .int .i64 of, .int .i64 le] from rfl]
  have b0 := one_alloc w (.cells #[.slice a L.length c, .int .i64 la, .int .i64 of, .int .i64 le] 59)
  have k0 := Blk.new w 59 #[.slice a L.length c, .int .i64 la, .int .i64 of, .int .i64 le]
  obtain ⟨⟨c0, _, _, _⟩, _⟩ := cells4 k0
  have cg := (Below.cell b0 (World.block_lt_of_cell? _ _ hg)).trans hg
  have hL := h.below b0
  have q1 := Lib.hid (fun W hW => Longest_any L _ W (hL.below hW))
  have q2 := Lib.hid (fun W => (Limit_any g W h1 h2).mono fun e w' (h : e = .returned (.int .i64 (limitG g)) ∧ W = w') => (⟨h.1, h.2 ▸ Below.refl _ _⟩ : e = .returned (.int .i64 (limitG g)) ∧ GrowR W w'))
  have x0 := grow_cell c0
  have xg := grow_cell cg
  generalize longestB L = lm at *
  generalize limitG g = lg at *
  clear h hL k0 c0 cg h1 h2
  go_enter Tryz.func45, Tryz.ntmps45
  go_wp2_with fail
  refine wp_region_at (R := GrowR) (by kernel_rfl) (by kernel_rfl) ?_
  (refine lex_one (by kernel_rfl) (by kernel_rfl) (by kernel_rfl) (fun K hK => ?_); go_big_quiet_step (fail); refine wpQuiet_nil (hK _ ?_); clear hK K); (refine lex_one (by kernel_rfl) (by kernel_rfl) (by kernel_rfl) (fun K hK => ?_); go_big_quiet_step (fail); refine wpQuiet_nil (hK _ ?_); clear hK K)
  (refine lex_call (f := 46) (args := #[.slice a L.length c]) (v := .int .i64 (lm : Int)) (by kernel_rfl) (fun _ _ h => by cases h) (by kernel_rfl) (by kernel_rfl) (fun _ => by go_simp) (fun W hW => q1.out W hW) (lex_put (type := 0) (pos := "") (fun K hK => ?_)); go_big_quiet_step (fail); refine wpQuiet_nil (hK _ ?_); clear hK K)
  (refine lex_one (by kernel_rfl) (by kernel_rfl) (by kernel_rfl) (fun K hK => ?_); go_big_quiet_step (fail); refine wpQuiet_nil (hK _ ?_); clear hK K)
  (refine lex_call (f := 47) (args := #[.int .i64 g]) (v := .int .i64 lg) (by kernel_rfl) (fun _ _ h => by cases h) (by kernel_rfl) (by kernel_rfl) (fun _ => by go_simp) (fun W hW => q2.out W) (lex_put (type := 0) (pos := "") (fun K hK => ?_)); go_big_quiet_step (fail); refine wpQuiet_nil (hK _ ?_); clear hK K)
  (refine lex_one (by kernel_rfl) (by kernel_rfl) (by kernel_rfl) (fun K hK => ?_); go_big_quiet_step (fail); refine wpQuiet_nil (hK _ ?_); clear hK K); (refine lex_one (by kernel_rfl) (by kernel_rfl) (by kernel_rfl) (fun K hK => ?_); go_big_quiet_step (fail); refine wpQuiet_nil (hK _ ?_); clear hK K)
  refine lex_nil (by kernel_rfl) (by kernel_rfl) (by kernel_rfl) ?_
  intro w2 hb2
  simp only [hideAll]
  clear x0 xg q1 q2
  go_wp2_with fail
  go_ret
  exact ⟨rfl, b0.trans (Below.mono hb2 b0.size)⟩
theorem longI_at {E : List En} {g : Int} {i : Nat} (h : i < E.length) (h2 : decide (limitG g < (longestB E[i].labels : Int)) = true) : longI E g = true := List.any_eq_true.2 ⟨_, List.getElem_mem h, h2⟩
set_option maxRecDepth 100000 in
set_option maxHeartbeats 1000000 in
theorem longs_any (E : List En) (v : Value) (g : Int) (p : Addr) (w : World) (h : EntsAt w v E) (hg : w.cell? p = some (.int .i64 g)) (h1 : -9223372036854775808 ≤ g) (h2 : g ≤ 9223372036854775807) :
    Calls Tryz.prog 44 #[v, .func (.func 45) #[] #[.pointer (some p)]] w fun e w' => e = .returned (.bool (longI E g)) ∧ Below w.heap.size w w' := by
  have Q : Calls Tryz.prog 85 #[v, .func (.func 45) #[] #[.pointer (some p)]] w fun e w' => ∃ k : Int, e = .returned (.int .i64 k) ∧ decide (0 ≤ k) = longI E g ∧ Below w.heap.size w w' := by
    have H := Lib.hid h
    have hfn := Lib.hid (fun (hn : ∀ i (hi : i < E.length), decide (limitG g < (longestB E[i].labels : Int)) = false) => (show longI E g = false by
      unfold longI
      rw [List.any_eq_false]
      intro x hx
      obtain ⟨i, hi, rfl⟩ := List.mem_iff_getElem.1 hx
      rw [hn i hi]
      simp))
    have hft := Lib.hid (fun i (hi : i < E.length) h2 => longI_at (E := E) (g := g) hi h2)
    have QL := Lib.hid (fun W (hW : Below w.heap.size w W) x lv hx => long1_any x lv g p W hx ((Below.cell hW (World.block_lt_of_cell? _ _ hg)).trans hg) h1 h2)
    obtain ⟨a, c, rfl, hnil, hl, hlc, hx⟩ := h
    have HX := Lib.hid hx
    clear hx
    generalize longI E g = R at *
    go_enter Tryz.func85, Tryz.ntmps85
    go_wp2_with fail
    go_loopw [8] (fun vi wr => ∃ i : Nat, i ≤ E.length ∧ vi = .int .i64 (i : Int) ∧ Below w.heap.size w wr ∧ Hid (∀ k (hk : k < E.length), k < i → decide (limitG g < (longestB E[k].labels : Int)) = false)) (fun vi _ => E.length - (intOf vi).toNat)
    case atStart => exact ⟨0, Nat.zero_le _, rfl, Below.refl _ _, Lib.hid fun k hk h => by omega⟩
    obtain ⟨i, hi, rfl, hb, HN⟩ := hrel
    rcases (show i < E.length ∨ i = E.length by omega) with hil | rfl
    · obtain ⟨hok, b, o, rfl, a', c', d0, hL, d1, d2, d3⟩ := HX.out i E[i] (List.getElem?_eq_getElem hil)
      have e0 := (hb.cell (World.block_lt_of_cell? _ _ d0)).trans d0
      have e1 := (hb.cell (World.block_lt_of_cell? _ _ d1)).trans d1
      have e2 := (hb.cell (World.block_lt_of_cell? _ _ d2)).trans d2
      have e3 := (hb.cell (World.block_lt_of_cell? _ _ d3)).trans d3
      have q := Lib.hid (QL.out wr hb E[i] _ (hL.below hb))
      rw [show enV (.slice a' E[i].labels.length c') E[i] = .agg #[.slice a' E[i].labels.length c', .int .i64 E[i].last, .int .i64 E[i].off, .int .i64 E[i].len] from rfl] at q
      have HN2 := Lib.hid (fun (h : decide (limitG g < (longestB E[i].labels : Int)) = false) => (show ∀ k (hk : k < E.length), k < i + 1 → decide (limitG g < (longestB E[k].labels : Int)) = false from fun k hk hki => by
        rcases (show k < i ∨ k = i by omega) with h3 | rfl
        · exact HN.out k hk h3
        · exact h))
      have HF := Lib.hid (hft.out i hil)
      clear d0 d1 d2 d3 hL hok HN
      generalize decide (limitG g < (longestB E[i].labels : Int)) = bo at *
      generalize E[i] = x at *
      go_wp2_with fail
      refine q.out.mono ?_
      rintro e w2 ⟨rfl, hb2⟩
      cases bo with
      | true =>
        have HR := Lib.hid (HF.out rfl)
        clear HF HN2 q
        go_wp2_with fail
        go_ret
        exact ⟨(i : Int), rfl, by rw [HR.out]; simp, hb.trans (hb2.mono hb.size)⟩
      | false =>
        have HN3 := Lib.hid (HN2.out rfl)
        clear HF HN2 q
        go_wp2_with fail
        go_roundw
        case rel => exact ⟨i + 1, by omega, by go_num, hb.trans (hb2.mono hb.size), HN3⟩
        case measure => simp [intOf]; omega
    · have HR := Lib.hid (hfn.out fun k hk => HN.out k hk hk)
      clear HN
      go_wp2_with fail
      go_ret
      exact ⟨-1, rfl, by rw [HR.out]; rfl, hb⟩
  have Q := Lib.hid Q
  generalize longI E g = R at *
  clear h hg
  go_enter Tryz.func44, Tryz.ntmps44
  go_wp2_with fail
  refine Q.out.mono ?_
  rintro e w2 ⟨k, rfl, hk, hb2⟩
  have HK := Lib.hid hk
  clear hk Q
  go_wp2_with fail
  go_ret
  exact ⟨by rw [← HK.out]; rfl, hb2⟩

def prevL (E : List En) (j : Nat) : Option (List Lb) := if j = 0 then none else some (E.getD (j - 1) zeroEn).labels
theorem prevL_succ {E : List En} {j : Nat} (h : j < E.length) : prevL E (j + 1) = some E[j].labels := by
  unfold prevL
  rw [if_neg (by omega), Nat.add_sub_cancel, List.getD_eq_getElem?_getD, List.getElem?_eq_getElem h]
  rfl
theorem good_cons (p : Option (List Lb)) (x : En) (l : List En) : goodFrom p (x :: l) = ((rightB x && (match p with | none => true | some q => lessL q x.labels)) && goodFrom (some x.labels) l) := rfl
theorem good_step {E : List En} {j : Nat} (h : j < E.length) : goodFrom (prevL E j) (E.drop j) = ((rightB E[j] && (match prevL E j with | none => true | some q => lessL q E[j].labels)) && goodFrom (prevL E (j + 1)) (E.drop (j + 1))) := by
  rw [List.drop_eq_getElem_cons h, good_cons, prevL_succ h]
theorem valid_out {E : List En} {g : Int} (h : g < 1 ∨ 3 < g ∨ 20 < E.length) : validI E g = 1 := by unfold validI; rw [if_pos h]
theorem valid_in {E : List En} {g : Int} (h : ¬ (g < 1 ∨ 3 < g ∨ 20 < E.length)) : validI E g = if goodFrom none E = false then 1 else if longI E g then 3 else 0 := by unfold validI; rw [if_neg h]
set_option maxRecDepth 100000 in
set_option maxHeartbeats 4000000 in
theorem IValid_any (E : List En) (v : Value) (g : Int) (w : World) (h : EntsAt w v E) (h1 : -9223372036854775808 ≤ g) (h2 : g ≤ 9223372036854775807) :
    Calls Tryz.prog 16 #[v, .int .i64 g] w fun e w' => e = .returned (.int .i64 (validI E g)) ∧ Below w.heap.size w w' := by
  obtain ⟨a, c, rfl, hnil, hl, hlc, hx⟩ := id h
  have hout := Lib.hid (valid_out (E := E) (g := g))
  have hin := Lib.hid (valid_in (E := E) (g := g))
  have b0 := one_alloc w (.cells #[.int .i64 g] 3)
  have cg : (w.alloc (.cells #[.int .i64 g] 3)).cell? ⟨w.heap.size, 0, none⟩ = some (.int .i64 g) := (World.cell?_alloc_new _ _ _ _).trans rfl
  by_cases g1 : g < 1
  · have f1 : decide (g < 1) = true := by simpa using g1
    have HY := Lib.hid (hout.out (.inl g1))
    clear hx hin hout
    generalize validI E g = R at *
    go_enter Tryz.func16, Tryz.ntmps16
    go_wp2_with fail
    go_ret
    exact ⟨by rw [HY.out]; rfl, b0⟩
  have f1 : decide (g < 1) = false := by simpa using g1
  by_cases g2 : 3 < g
  · have f2 : decide (3 < g) = true := by simpa using g2
    have HY := Lib.hid (hout.out (.inr (.inl g2)))
    clear hx hin hout
    generalize validI E g = R at *
    go_enter Tryz.func16, Tryz.ntmps16
    go_wp2_with fail
    go_ret
    exact ⟨by rw [HY.out]; rfl, b0⟩
  have f2 : decide (3 < g) = false := by simpa using g2
  by_cases g3 : 20 < E.length
  · have f3 : decide (20 < E.length) = true := by simpa using g3
    have f3' : decide ((20 : Int) < (E.length : Int)) = true := by simp; omega
    have HY := Lib.hid (hout.out (.inr (.inr g3)))
    clear hx hin hout
    generalize validI E g = R at *
    go_enter Tryz.func16, Tryz.ntmps16
    go_wp2_with fail
    go_ret
    exact ⟨by rw [HY.out]; rfl, b0⟩
  have f3 : decide (20 < E.length) = false := by simpa using g3
  have f3' : decide ((20 : Int) < (E.length : Int)) = false := by simp; omega
  have HI := Lib.hid (hin.out (by omega))
  have HX := Lib.hid hx
  have QF := Lib.hid (fun W (hW : Below w.heap.size w W) (hc : W.cell? ⟨w.heap.size, 0, none⟩ = some (.int .i64 g)) => longs_any E _ g ⟨w.heap.size, 0, none⟩ W (h.below hW) hc h1 h2)
  clear hx hin hout g1 g2 g3
  generalize validI E g = R at *
  generalize longI E g = lo at *
  have HG0 := Lib.hid (show goodFrom none E = goodFrom (prevL E 0) (E.drop 0) from rfl)
  generalize goodFrom none E = G at *
  go_enter Tryz.func16, Tryz.ntmps16
  go_wp2_with fail
  go_loopw [20] (fun vi wr => ∃ i : Nat, i ≤ E.length ∧ vi = .int .i64 (i : Int) ∧ Below w.heap.size w wr ∧ wr.cell? ⟨w.heap.size, 0, none⟩ = some (.int .i64 g) ∧ Hid (G = goodFrom (prevL E i) (E.drop i))) (fun vi _ => E.length - (intOf vi).toNat)
  case atStart => exact ⟨0, Nat.zero_le _, rfl, b0, cg, HG0⟩
  clear b0 cg HG0
  obtain ⟨i, hi, rfl, hb, cg, HG⟩ := hrel
  rcases (show i < E.length ∨ i = E.length by omega) with hil | rfl
  · obtain ⟨hok, b, o, rfl, a', c', d0, hL, d1, d2, d3⟩ := HX.out i E[i] (List.getElem?_eq_getElem hil)
    have e0 := (hb.cell (World.block_lt_of_cell? _ _ d0)).trans d0
    have e1 := (hb.cell (World.block_lt_of_cell? _ _ d1)).trans d1
    have e2 := (hb.cell (World.block_lt_of_cell? _ _ d2)).trans d2
    have e3 := (hb.cell (World.block_lt_of_cell? _ _ d3)).trans d3
    have HG2 := Lib.hid (HG.out.trans (good_step hil))
    have hL' := hL.below hb
    have HP : prevL E i = if i = 0 then none else some (E.getD (i - 1) zeroEn).labels := rfl
    have bA := one_alloc wr (.cells #[.slice a' E[i].labels.length c', .int .i64 E[i].last, .int .i64 E[i].off, .int .i64 E[i].len] 59)
    have kA := Blk.new wr 59 #[.slice a' E[i].labels.length c', .int .i64 E[i].last, .int .i64 E[i].off, .int .i64 E[i].len]
    obtain ⟨⟨y0, y1, y2, y3⟩, _⟩ := cells4 kA
    have cgA := (Below.cell bA (World.block_lt_of_cell? _ _ cg)).trans cg
    have qr := Lib.hid (fun W (hW : Below (wr.alloc (.cells #[.slice a' E[i].labels.length c', .int .i64 E[i].last, .int .i64 E[i].off, .int .i64 E[i].len] 59)).heap.size (wr.alloc (.cells #[.slice a' E[i].labels.length c', .int .i64 E[i].last, .int .i64 E[i].off, .int .i64 E[i].len] 59)) W) => right_any E[i] (.slice a' E[i].labels.length c') W ((hL'.below bA).below hW))
    rw [show enV (.slice a' E[i].labels.length c') E[i] = .agg #[.slice a' E[i].labels.length c', .int .i64 E[i].last, .int .i64 E[i].off, .int .i64 E[i].len] from rfl] at qr
    have z0 := grow_cell y0
    have z1 := grow_cell y1
    have z2 := grow_cell y2
    have z3 := grow_cell y3
    have BA := Lib.hid (hb.trans (bA.mono hb.size))
    have HGN := Lib.hid (prevL_succ hil)
    cases hri : rightB E[i] with
    | false =>
      rw [hri] at HG2 qr
      have HE := Lib.hid (show R = 1 by rw [HI.out, show G = false from HG2.out]; rfl)
      clear HI HG HG2 hri HP QF HX hok hL hL' d0 d1 d2 d3
      go_wp2_with fail
      refine wp_region_at (R := GrowR) (by kernel_rfl) (by kernel_rfl) ?_
      (refine lex_one (by kernel_rfl) (by kernel_rfl) (by kernel_rfl) (fun K hK => ?_); go_big_quiet_step (fail); refine wpQuiet_nil (hK _ ?_); clear hK K)
      (refine lex_call (f := 42) (args := #[.agg #[.slice a' E[i].labels.length c', .int .i64 E[i].last, .int .i64 E[i].off, .int .i64 E[i].len]]) (v := .bool false) (by kernel_rfl) (fun _ _ h => by cases h) (by kernel_rfl) (by kernel_rfl) (fun _ => by go_simp) (fun W hW => qr.out W hW) (lex_put (type := 0) (pos := "") (fun K hK => ?_)); go_big_quiet_step (fail); refine wpQuiet_nil (hK _ ?_); clear hK K)
      (refine lex_one (by kernel_rfl) (by kernel_rfl) (by kernel_rfl) (fun K hK => ?_); go_big_quiet_step (fail); refine wpQuiet_nil (hK _ ?_); clear hK K); (refine lex_one (by kernel_rfl) (by kernel_rfl) (by kernel_rfl) (fun K hK => ?_); go_big_quiet_step (fail); refine wpQuiet_nil (hK _ ?_); clear hK K); (refine lex_one (by kernel_rfl) (by kernel_rfl) (by kernel_rfl) (fun K hK => ?_); go_big_quiet_step (fail); refine wpQuiet_nil (hK _ ?_); clear hK K); (refine lex_one (by kernel_rfl) (by kernel_rfl) (by kernel_rfl) (fun K hK => ?_); go_big_quiet_step (fail); refine wpQuiet_nil (hK _ ?_); clear hK K); (refine lex_one (by kernel_rfl) (by kernel_rfl) (by kernel_rfl) (fun K hK => ?_); go_big_quiet_step (fail); refine wpQuiet_nil (hK _ ?_); clear hK K); (refine lex_one (by kernel_rfl) (by kernel_rfl) (by kernel_rfl) (fun K hK => ?_); go_big_quiet_step (fail); refine wpQuiet_nil (hK _ ?_); clear hK K); (refine lex_one (by kernel_rfl) (by kernel_rfl) (by kernel_rfl) (fun K hK => ?_); go_big_quiet_step (fail); refine wpQuiet_nil (hK _ ?_); clear hK K); (refine lex_one (by kernel_rfl) (by kernel_rfl) (by kernel_rfl) (fun K hK => ?_); go_big_quiet_step (fail); refine wpQuiet_nil (hK _ ?_); clear hK K); (refine lex_one (by kernel_rfl) (by kernel_rfl) (by kernel_rfl) (fun K hK => ?_); go_big_quiet_step (fail); refine wpQuiet_nil (hK _ ?_); clear hK K); (refine lex_one (by kernel_rfl) (by kernel_rfl) (by kernel_rfl) (fun K hK => ?_); go_big_quiet_step (fail); refine wpQuiet_nil (hK _ ?_); clear hK K); (refine lex_one (by kernel_rfl) (by kernel_rfl) (by kernel_rfl) (fun K hK => ?_); go_big_quiet_step (fail); refine wpQuiet_nil (hK _ ?_); clear hK K); (refine lex_one (by kernel_rfl) (by kernel_rfl) (by kernel_rfl) (fun K hK => ?_); go_big_quiet_step (fail); refine wpQuiet_nil (hK _ ?_); clear hK K); (refine lex_one (by kernel_rfl) (by kernel_rfl) (by kernel_rfl) (fun K hK => ?_); go_big_quiet_step (fail); refine wpQuiet_nil (hK _ ?_); clear hK K)
      (refine lex_none (by kernel_rfl) (by kernel_rfl) (by kernel_rfl) (fun K hK => ?_); go_big_quiet_step (fail); refine wpQuiet_nil (hK _ ?_); clear hK K)
      (refine lex_one (by kernel_rfl) (by kernel_rfl) (by kernel_rfl) (fun K hK => ?_); go_big_quiet_step (fail); refine wpQuiet_nil (hK _ ?_); clear hK K); (refine lex_one (by kernel_rfl) (by kernel_rfl) (by kernel_rfl) (fun K hK => ?_); go_big_quiet_step (fail); refine wpQuiet_nil (hK _ ?_); clear hK K); (refine lex_one (by kernel_rfl) (by kernel_rfl) (by kernel_rfl) (fun K hK => ?_); go_big_quiet_step (fail); refine wpQuiet_nil (hK _ ?_); clear hK K)
      refine lex_nil (by kernel_rfl) (by kernel_rfl) (by kernel_rfl) ?_
      intro w2 hb2
      simp only [hideAll]
      go_wp2_with fail
      go_ret
      exact ⟨by rw [HE.out]; rfl, BA.out.trans (Below.mono hb2 BA.out.size)⟩
    | true =>
      rw [hri] at HG2 qr
      by_cases hi0 : i = 0
      · subst hi0
        rw [Nat.zero_mul, Nat.add_zero] at e0 e1 e2 e3
        have HG3 := Lib.hid (show G = goodFrom (prevL E (0 + 1)) (E.drop (0 + 1)) from HG2.out)
        clear HG HG2 hri HP hok hL hL' d0 d1 d2 d3
        go_wp2_with fail
        refine wp_region_at (R := GrowR) (by kernel_rfl) (by kernel_rfl) ?_
        (refine lex_one (by kernel_rfl) (by kernel_rfl) (by kernel_rfl) (fun K hK => ?_); go_big_quiet_step (fail); refine wpQuiet_nil (hK _ ?_); clear hK K)
        (refine lex_call (f := 42) (args := #[.agg #[.slice a' E[0].labels.length c', .int .i64 E[0].last, .int .i64 E[0].off, .int .i64 E[0].len]]) (v := .bool true) (by kernel_rfl) (fun _ _ h => by cases h) (by kernel_rfl) (by kernel_rfl) (fun _ => by go_simp) (fun W hW => qr.out W hW) (lex_put (type := 0) (pos := "") (fun K hK => ?_)); go_big_quiet_step (fail); refine wpQuiet_nil (hK _ ?_); clear hK K)
        (refine lex_one (by kernel_rfl) (by kernel_rfl) (by kernel_rfl) (fun K hK => ?_); go_big_quiet_step (fail); refine wpQuiet_nil (hK _ ?_); clear hK K); (refine lex_one (by kernel_rfl) (by kernel_rfl) (by kernel_rfl) (fun K hK => ?_); go_big_quiet_step (fail); refine wpQuiet_nil (hK _ ?_); clear hK K); (refine lex_one (by kernel_rfl) (by kernel_rfl) (by kernel_rfl) (fun K hK => ?_); go_big_quiet_step (fail); refine wpQuiet_nil (hK _ ?_); clear hK K); (refine lex_one (by kernel_rfl) (by kernel_rfl) (by kernel_rfl) (fun K hK => ?_); go_big_quiet_step (fail); refine wpQuiet_nil (hK _ ?_); clear hK K); (refine lex_one (by kernel_rfl) (by kernel_rfl) (by kernel_rfl) (fun K hK => ?_); go_big_quiet_step (fail); refine wpQuiet_nil (hK _ ?_); clear hK K); (refine lex_one (by kernel_rfl) (by kernel_rfl) (by kernel_rfl) (fun K hK => ?_); go_big_quiet_step (fail); refine wpQuiet_nil (hK _ ?_); clear hK K); (refine lex_one (by kernel_rfl) (by kernel_rfl) (by kernel_rfl) (fun K hK => ?_); go_big_quiet_step (fail); refine wpQuiet_nil (hK _ ?_); clear hK K); (refine lex_one (by kernel_rfl) (by kernel_rfl) (by kernel_rfl) (fun K hK => ?_); go_big_quiet_step (fail); refine wpQuiet_nil (hK _ ?_); clear hK K); (refine lex_one (by kernel_rfl) (by kernel_rfl) (by kernel_rfl) (fun K hK => ?_); go_big_quiet_step (fail); refine wpQuiet_nil (hK _ ?_); clear hK K); (refine lex_one (by kernel_rfl) (by kernel_rfl) (by kernel_rfl) (fun K hK => ?_); go_big_quiet_step (fail); refine wpQuiet_nil (hK _ ?_); clear hK K); (refine lex_one (by kernel_rfl) (by kernel_rfl) (by kernel_rfl) (fun K hK => ?_); go_big_quiet_step (fail); refine wpQuiet_nil (hK _ ?_); clear hK K); (refine lex_one (by kernel_rfl) (by kernel_rfl) (by kernel_rfl) (fun K hK => ?_); go_big_quiet_step (fail); refine wpQuiet_nil (hK _ ?_); clear hK K); (refine lex_one (by kernel_rfl) (by kernel_rfl) (by kernel_rfl) (fun K hK => ?_); go_big_quiet_step (fail); refine wpQuiet_nil (hK _ ?_); clear hK K)
        (refine lex_none (by kernel_rfl) (by kernel_rfl) (by kernel_rfl) (fun K hK => ?_); go_big_quiet_step (fail); refine wpQuiet_nil (hK _ ?_); clear hK K)
        (refine lex_one (by kernel_rfl) (by kernel_rfl) (by kernel_rfl) (fun K hK => ?_); go_big_quiet_step (fail); refine wpQuiet_nil (hK _ ?_); clear hK K); (refine lex_one (by kernel_rfl) (by kernel_rfl) (by kernel_rfl) (fun K hK => ?_); go_big_quiet_step (fail); refine wpQuiet_nil (hK _ ?_); clear hK K); (refine lex_one (by kernel_rfl) (by kernel_rfl) (by kernel_rfl) (fun K hK => ?_); go_big_quiet_step (fail); refine wpQuiet_nil (hK _ ?_); clear hK K)
        refine lex_nil (by kernel_rfl) (by kernel_rfl) (by kernel_rfl) ?_
        intro w2 hb2
        simp only [hideAll]
        have cg2 := (Below.cell (show Below _ _ w2 from hb2) (World.block_lt_of_cell? _ _ cgA)).trans cgA
        go_wp2_with fail
        go_roundw
        case rel => exact ⟨0 + 1, by omega, by go_num, BA.out.trans (Below.mono hb2 BA.out.size), cg2, HG3⟩
        case measure => simp [intOf]; omega
      · obtain ⟨hok', b', o', eb, a3, c3, g0, hM, _, _, _⟩ := HX.out (i - 1) E[i - 1] (List.getElem?_eq_getElem (by omega))
        obtain ⟨rfl, rfl, _⟩ := Addr.mk.inj (Option.some.inj eb)
        have hM' := hM.below hb
        have j0 := (hb.cell (World.block_lt_of_cell? _ _ g0)).trans g0
        have jA := (Below.cell bA (World.block_lt_of_cell? _ _ j0)).trans j0
        rw [HP, if_neg hi0, List.getD_eq_getElem?_getD, List.getElem?_eq_getElem (show i - 1 < E.length by omega)] at HG2
        have HG4 := Lib.hid (show G = (lessL E[i - 1].labels E[i].labels && goodFrom (prevL E (i + 1)) (E.drop (i + 1))) from HG2.out)
        have ql := Lib.hid (fun W (hW : Below (wr.alloc (.cells #[.slice a' E[i].labels.length c', .int .i64 E[i].last, .int .i64 E[i].off, .int .i64 E[i].len] 59)).heap.size (wr.alloc (.cells #[.slice a' E[i].labels.length c', .int .i64 E[i].last, .int .i64 E[i].off, .int .i64 E[i].len] 59)) W) => LLess_any E[i - 1].labels E[i].labels _ _ W ((hM'.below bA).below hW) ((hL'.below bA).below hW))
        have u0 := grow_cell jA
        have f4 : decide (0 < i) = true := by simp; omega
        have f5 : decide ((0 : Int) < (i : Int)) = true := by simp; omega
        have hw1 : IntKind.i64.wrap ((i : Int) - 1) = (i : Int) - 1 := IntWalk.i64_in _ (by omega)
        have hi1 : (i : Int) - 1 = ((i - 1 : Nat) : Int) := by omega
        cases hle : lessL E[i - 1].labels E[i].labels with
        | false =>
          rw [hle] at HG4 ql
          have HE := Lib.hid (show R = 1 by rw [HI.out, show G = false from HG4.out]; rfl)
          clear HI HG HG2 HG4 hri HP QF HX hok hL hL' d0 d1 d2 d3 hok' hM hM' hle g0 j0 jA
          go_wp2_with fail
          refine wp_region_at (R := GrowR) (by kernel_rfl) (by kernel_rfl) ?_
          (refine lex_one (by kernel_rfl) (by kernel_rfl) (by kernel_rfl) (fun K hK => ?_); go_big_quiet_step (fail); refine wpQuiet_nil (hK _ ?_); clear hK K)
          (refine lex_call (f := 42) (args := #[.agg #[.slice a' E[i].labels.length c', .int .i64 E[i].last, .int .i64 E[i].off, .int .i64 E[i].len]]) (v := .bool true) (by kernel_rfl) (fun _ _ h => by cases h) (by kernel_rfl) (by kernel_rfl) (fun _ => by go_simp) (fun W hW => qr.out W hW) (lex_put (type := 0) (pos := "") (fun K hK => ?_)); go_big_quiet_step (fail); refine wpQuiet_nil (hK _ ?_); clear hK K)
          (refine lex_one (by kernel_rfl) (by kernel_rfl) (by kernel_rfl) (fun K hK => ?_); go_big_quiet_step (fail); refine wpQuiet_nil (hK _ ?_); clear hK K); (refine lex_one (by kernel_rfl) (by kernel_rfl) (by kernel_rfl) (fun K hK => ?_); go_big_quiet_step (fail); refine wpQuiet_nil (hK _ ?_); clear hK K); (refine lex_one (by kernel_rfl) (by kernel_rfl) (by kernel_rfl) (fun K hK => ?_); go_big_quiet_step (fail); refine wpQuiet_nil (hK _ ?_); clear hK K); (refine lex_one (by kernel_rfl) (by kernel_rfl) (by kernel_rfl) (fun K hK => ?_); go_big_quiet_step (fail); refine wpQuiet_nil (hK _ ?_); clear hK K); (refine lex_one (by kernel_rfl) (by kernel_rfl) (by kernel_rfl) (fun K hK => ?_); go_big_quiet_step (fail); refine wpQuiet_nil (hK _ ?_); clear hK K); (refine lex_one (by kernel_rfl) (by kernel_rfl) (by kernel_rfl) (fun K hK => ?_); go_big_quiet_step (fail); refine wpQuiet_nil (hK _ ?_); clear hK K); (refine lex_one (by kernel_rfl) (by kernel_rfl) (by kernel_rfl) (fun K hK => ?_); go_big_quiet_step (fail); refine wpQuiet_nil (hK _ ?_); clear hK K); (refine lex_one (by kernel_rfl) (by kernel_rfl) (by kernel_rfl) (fun K hK => ?_); go_big_quiet_step (fail); refine wpQuiet_nil (hK _ ?_); clear hK K); (refine lex_one (by kernel_rfl) (by kernel_rfl) (by kernel_rfl) (fun K hK => ?_); go_big_quiet_step (fail); refine wpQuiet_nil (hK _ ?_); clear hK K); (refine lex_one (by kernel_rfl) (by kernel_rfl) (by kernel_rfl) (fun K hK => ?_); go_big_quiet_step (fail); refine wpQuiet_nil (hK _ ?_); clear hK K); (refine lex_one (by kernel_rfl) (by kernel_rfl) (by kernel_rfl) (fun K hK => ?_); go_big_quiet_step (fail); refine wpQuiet_nil (hK _ ?_); clear hK K); (refine lex_one (by kernel_rfl) (by kernel_rfl) (by kernel_rfl) (fun K hK => ?_); go_big_quiet_step (fail); refine wpQuiet_nil (hK _ ?_); clear hK K); (refine lex_one (by kernel_rfl) (by kernel_rfl) (by kernel_rfl) (fun K hK => ?_); go_big_quiet_step (fail); refine wpQuiet_nil (hK _ ?_); clear hK K)
          (refine lex_call (f := 43) (args := #[.slice a3 E[i - 1].labels.length c3, .slice a' E[i].labels.length c']) (v := .bool false) (by kernel_rfl) (fun _ _ h => by cases h) (by kernel_rfl) (by kernel_rfl) (fun _ => by go_simp) (fun W hW => ql.out W hW) (lex_put (type := 0) (pos := "") (fun K hK => ?_)); go_big_quiet_step (fail); refine wpQuiet_nil (hK _ ?_); clear hK K)
          (refine lex_one (by kernel_rfl) (by kernel_rfl) (by kernel_rfl) (fun K hK => ?_); go_big_quiet_step (fail); refine wpQuiet_nil (hK _ ?_); clear hK K); (refine lex_one (by kernel_rfl) (by kernel_rfl) (by kernel_rfl) (fun K hK => ?_); go_big_quiet_step (fail); refine wpQuiet_nil (hK _ ?_); clear hK K); (refine lex_one (by kernel_rfl) (by kernel_rfl) (by kernel_rfl) (fun K hK => ?_); go_big_quiet_step (fail); refine wpQuiet_nil (hK _ ?_); clear hK K)
          refine lex_nil (by kernel_rfl) (by kernel_rfl) (by kernel_rfl) ?_
          intro w2 hb2
          simp only [hideAll]
          go_wp2_with fail
          go_ret
          exact ⟨by rw [HE.out]; rfl, BA.out.trans (Below.mono hb2 BA.out.size)⟩
        | true =>
          rw [hle] at HG4 ql
          have HG3 := Lib.hid (show G = goodFrom (prevL E (i + 1)) (E.drop (i + 1)) from HG4.out)
          clear HG HG2 HG4 hri HP hok hL hL' d0 d1 d2 d3 hok' hM hM' hle g0 j0 jA
          go_wp2_with fail
          refine wp_region_at (R := GrowR) (by kernel_rfl) (by kernel_rfl) ?_
          (refine lex_one (by kernel_rfl) (by kernel_rfl) (by kernel_rfl) (fun K hK => ?_); go_big_quiet_step (fail); refine wpQuiet_nil (hK _ ?_); clear hK K)
          (refine lex_call (f := 42) (args := #[.agg #[.slice a' E[i].labels.length c', .int .i64 E[i].last, .int .i64 E[i].off, .int .i64 E[i].len]]) (v := .bool true) (by kernel_rfl) (fun _ _ h => by cases h) (by kernel_rfl) (by kernel_rfl) (fun _ => by go_simp) (fun W hW => qr.out W hW) (lex_put (type := 0) (pos := "") (fun K hK => ?_)); go_big_quiet_step (fail); refine wpQuiet_nil (hK _ ?_); clear hK K)
          (refine lex_one (by kernel_rfl) (by kernel_rfl) (by kernel_rfl) (fun K hK => ?_); go_big_quiet_step (fail); refine wpQuiet_nil (hK _ ?_); clear hK K); (refine lex_one (by kernel_rfl) (by kernel_rfl) (by kernel_rfl) (fun K hK => ?_); go_big_quiet_step (fail); refine wpQuiet_nil (hK _ ?_); clear hK K); (refine lex_one (by kernel_rfl) (by kernel_rfl) (by kernel_rfl) (fun K hK => ?_); go_big_quiet_step (fail); refine wpQuiet_nil (hK _ ?_); clear hK K); (refine lex_one (by kernel_rfl) (by kernel_rfl) (by kernel_rfl) (fun K hK => ?_); go_big_quiet_step (fail); refine wpQuiet_nil (hK _ ?_); clear hK K); (refine lex_one (by kernel_rfl) (by kernel_rfl) (by kernel_rfl) (fun K hK => ?_); go_big_quiet_step (fail); refine wpQuiet_nil (hK _ ?_); clear hK K); (refine lex_one (by kernel_rfl) (by kernel_rfl) (by kernel_rfl) (fun K hK => ?_); go_big_quiet_step (fail); refine wpQuiet_nil (hK _ ?_); clear hK K); (refine lex_one (by kernel_rfl) (by kernel_rfl) (by kernel_rfl) (fun K hK => ?_); go_big_quiet_step (fail); refine wpQuiet_nil (hK _ ?_); clear hK K); (refine lex_one (by kernel_rfl) (by kernel_rfl) (by kernel_rfl) (fun K hK => ?_); go_big_quiet_step (fail); refine wpQuiet_nil (hK _ ?_); clear hK K); (refine lex_one (by kernel_rfl) (by kernel_rfl) (by kernel_rfl) (fun K hK => ?_); go_big_quiet_step (fail); refine wpQuiet_nil (hK _ ?_); clear hK K); (refine lex_one (by kernel_rfl) (by kernel_rfl) (by kernel_rfl) (fun K hK => ?_); go_big_quiet_step (fail); refine wpQuiet_nil (hK _ ?_); clear hK K); (refine lex_one (by kernel_rfl) (by kernel_rfl) (by kernel_rfl) (fun K hK => ?_); go_big_quiet_step (fail); refine wpQuiet_nil (hK _ ?_); clear hK K); (refine lex_one (by kernel_rfl) (by kernel_rfl) (by kernel_rfl) (fun K hK => ?_); go_big_quiet_step (fail); refine wpQuiet_nil (hK _ ?_); clear hK K); (refine lex_one (by kernel_rfl) (by kernel_rfl) (by kernel_rfl) (fun K hK => ?_); go_big_quiet_step (fail); refine wpQuiet_nil (hK _ ?_); clear hK K)
          (refine lex_call (f := 43) (args := #[.slice a3 E[i - 1].labels.length c3, .slice a' E[i].labels.length c']) (v := .bool true) (by kernel_rfl) (fun _ _ h => by cases h) (by kernel_rfl) (by kernel_rfl) (fun _ => by go_simp) (fun W hW => ql.out W hW) (lex_put (type := 0) (pos := "") (fun K hK => ?_)); go_big_quiet_step (fail); refine wpQuiet_nil (hK _ ?_); clear hK K)
          (refine lex_one (by kernel_rfl) (by kernel_rfl) (by kernel_rfl) (fun K hK => ?_); go_big_quiet_step (fail); refine wpQuiet_nil (hK _ ?_); clear hK K); (refine lex_one (by kernel_rfl) (by kernel_rfl) (by kernel_rfl) (fun K hK => ?_); go_big_quiet_step (fail); refine wpQuiet_nil (hK _ ?_); clear hK K); (refine lex_one (by kernel_rfl) (by kernel_rfl) (by kernel_rfl) (fun K hK => ?_); go_big_quiet_step (fail); refine wpQuiet_nil (hK _ ?_); clear hK K)
          refine lex_nil (by kernel_rfl) (by kernel_rfl) (by kernel_rfl) ?_
          intro w2 hb2
          simp only [hideAll]
          have cg2 := (Below.cell (show Below _ _ w2 from hb2) (World.block_lt_of_cell? _ _ cgA)).trans cgA
          go_wp2_with fail
          go_roundw
          case rel => exact ⟨i + 1, by omega, by go_num, BA.out.trans (Below.mono hb2 BA.out.size), cg2, HG3⟩
          case measure => simp [intOf]; omega
  · have HGt := Lib.hid (show G = true by rw [HG.out, List.drop_length]; rfl)
    have q := Lib.hid (QF.out wr hb cg)
    have HI2 := Lib.hid (show R = if lo then 3 else 0 by rw [HI.out, HGt.out]; rfl)
    clear QF HI HG HGt
    go_wp2_with fail
    refine q.out.mono ?_
    rintro e w2 ⟨rfl, hb2⟩
    cases lo with
    | true =>
      have HE := Lib.hid (show R = 3 from HI2.out)
      clear HI2 q
      go_wp2_with fail
      go_ret
      exact ⟨by rw [HE.out]; rfl, hb.trans (hb2.mono hb.size)⟩
    | false =>
      have HE := Lib.hid (show R = 0 from HI2.out)
      clear HI2 q
      go_wp2_with fail
      go_ret
      exact ⟨by rw [HE.out]; rfl, hb.trans (hb2.mono hb.size)⟩
end Go.Proofs.YtpeahjocimhneaaGreatDoor
