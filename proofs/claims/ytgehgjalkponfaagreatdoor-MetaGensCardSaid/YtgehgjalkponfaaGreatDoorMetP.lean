/- A meta as bytes, and what bytes tell: in plain words. What is put is got again, and nothing else is. -/
import Derived.Test.YtgehgjalkponfaaGreatDoorCurS
namespace Go.Proofs.YtgehgjalkponfaaGreatDoor
open Go.RowKit
attribute [local go_sem] bs_toList bs_size

/-- What a store is made of. -/
structure Mt where
  gen : Int
  next : Int
  wal : Int
  blocks : List Int
theorem Mt.ext' {m n : Mt} (h1 : m.gen = n.gen) (h2 : m.next = n.next) (h3 : m.wal = n.wal) (h4 : m.blocks = n.blocks) : m = n := by
  cases m
  cases n
  simp_all
def magicM : List UInt8 := [65, 77, 69, 84]
/-- May it be? -/
def validM (m : Mt) : Bool := decide (1 ≤ m.gen ∧ m.gen ≤ 3 ∧ 0 ≤ m.next ∧ m.next ≤ 999999 ∧ m.blocks.length ≤ 40) && (decide (∀ x ∈ m.wal :: m.blocks, 0 ≤ x ∧ x < m.next) && decide ((m.wal :: m.blocks).Nodup))
theorem validM_iff (m : Mt) : validM m = true ↔ (1 ≤ m.gen ∧ m.gen ≤ 3 ∧ 0 ≤ m.next ∧ m.next ≤ 999999 ∧ m.blocks.length ≤ 40) ∧ (∀ x ∈ m.wal :: m.blocks, 0 ≤ x ∧ x < m.next) ∧ (m.wal :: m.blocks).Nodup := by
  unfold validM
  rw [Bool.and_eq_true, Bool.and_eq_true, decide_eq_true_eq, decide_eq_true_eq, decide_eq_true_eq]
/-- A number as a generation has it. -/
def numB (g n : Int) : List UInt8 := if g = 1 then Num.wide (u64N n) else Num.small (u64N n)
def dltB : Int → List Int → List UInt8
  | _, [] => []
  | last, b :: l => Num.small (Num.zigI (b - last)).toNat ++ dltB b l
def bodyB (m : Mt) : List UInt8 :=
  if m.gen < 3 then (m.next :: m.wal :: (m.blocks.length : Int) :: m.blocks).flatMap (numB m.gen)
  else [m.next, m.next - m.wal, (m.blocks.length : Int)].flatMap (numB m.gen) ++ dltB 0 m.blocks
/-- One as bytes; or an error. -/
def putM (m : Mt) : List UInt8 × Int := if validM m then (headB magicM m.gen.toNat 0 ++ framePut (bodyB m), 0) else ([], 1)
/-- A number of a generation, at most so great; else the bytes are bad. -/
def numG (g : Int) (most : Nat) (c : CS) : Int × CS :=
  if (most : Int) < (if g = 1 then wV c else sV c) then (0, ((if g = 1 then wN c else sN c).1, true)) else (if g = 1 then wV c else sV c, if g = 1 then wN c else sN c)
def wr64 (n : Int) : Int := IntKind.i64.wrap n
def blkG (g : Int) : Nat → Int → CS → List Int × CS
  | 0, _, c => ([], c)
  | q + 1, last, c => if g = 3 then (wr64 (last + Num.zagI (sV c)) :: (blkG g q (wr64 (last + Num.zagI (sV c))) (sN c)).1, (blkG g q (wr64 (last + Num.zagI (sV c))) (sN c)).2)
    else ((numG g 999999 c).1 :: (blkG g q (numG g 999999 c).1 (numG g 999999 c).2).1, (blkG g q (numG g 999999 c).1 (numG g 999999 c).2).2)
/-- The meta that bytes may be; and what is left. -/
def readM (b : List UInt8) (g : Int) : Mt × CS :=
  let a := numG g 999999 (b, false)
  let w := numG g 999999 a.2
  let n := numG g 40 w.2
  let l := blkG g n.1.toNat 0 n.2
  (⟨g, a.1, if g = 3 then a.1 - w.1 else w.1, l.1⟩, l.2)
/-- The one that bytes are; or an error. -/
def getM (s : List UInt8) : Option Mt × Int :=
  match openB s magicM with
  | (g, _, rest, e) => if e ≠ 0 then (none, e)
    else if (frameGet rest 1000).2.2 ≠ 0 ∨ (frameGet rest 1000).2.1 ≠ [] ∨ doneB (readM (frameGet rest 1000).1 g).2.1 (readM (frameGet rest 1000).1 g).2.2 = false then (none, 9)
    else if putM (readM (frameGet rest 1000).1 g).1 = (s, 0) then (some (readM (frameGet rest 1000).1 g).1, 0) else (none, 9)

theorem u64N_pos (n : Int) (h : 0 ≤ n) (h2 : n ≤ 999999) : ((u64N n : Nat) : Int) = n ∧ u64N n < 18446744073709551616 := by
  unfold u64N
  omega
theorem numG_put (g : Int) (most : Nat) (n : Int) (r : List UInt8) (h0 : 0 ≤ n) (h1 : n ≤ most) (h2 : n ≤ 999999) : numG g most (numB g n ++ r, false) = (n, (r, false)) := by
  obtain ⟨e1, e2⟩ := u64N_pos n h0 h2
  unfold numG numB
  by_cases hg : g = 1
  · simp only [if_pos hg]
    rw [wV_wide _ _ e2, wN_wide _ _ e2, e1, if_neg (by omega)]
  · simp only [if_neg hg]
    rw [sV_small _ _ e2, sN_small _ _ e2, e1, if_neg (by omega)]
theorem blkG_put (g : Int) (hg : g ≠ 3) : ∀ (l : List Int) (last : Int) (r : List UInt8), (∀ x ∈ l, 0 ≤ x ∧ x ≤ 999999) → blkG g l.length last (l.flatMap (numB g) ++ r, false) = (l, (r, false))
  | [], _, r, _ => rfl
  | x :: l, last, r, h => by
    obtain ⟨h1, h2⟩ := h x List.mem_cons_self
    rw [List.flatMap_cons, List.append_assoc, List.length_cons, blkG, if_neg hg, numG_put g 999999 x _ h1 h2 h2]
    rw [blkG_put g hg l x r fun y hy => h y (List.mem_cons_of_mem _ hy)]
theorem wr64_id (n : Int) (h1 : -9223372036854775808 ≤ n) (h2 : n ≤ 9223372036854775807) : wr64 n = n := by
  unfold wr64
  simp [IntKind.wrap, IntKind.bits, IntKind.signed]
  omega
theorem blkG_put3 : ∀ (l : List Int) (last : Int) (r : List UInt8), (∀ x ∈ l, 0 ≤ x ∧ x ≤ 999999) → 0 ≤ last → last ≤ 999999 → blkG 3 l.length last (dltB last l ++ r, false) = (l, (r, false))
  | [], _, r, _, _, _ => rfl
  | x :: l, last, r, h, h3, h4 => by
    obtain ⟨h1, h2⟩ := h x List.mem_cons_self
    have hz := Num.zig_bd (x - last) (by omega) (by omega)
    have hz2 : ((Num.zigI (x - last)).toNat : Int) = Num.zigI (x - last) := Int.toNat_of_nonneg hz.1
    rw [dltB, List.append_assoc, List.length_cons, blkG, if_pos rfl, sV_small _ _ (by omega), sN_small _ _ (by omega), hz2, Num.zag_zig, show last + (x - last) = x by omega, wr64_id x (by omega) (by omega)]
    rw [blkG_put3 l x r (fun y hy => h y (List.mem_cons_of_mem _ hy)) h1 h2]
/-- What is put is read. -/
theorem readM_put (m : Mt) (h : validM m = true) : readM (bodyB m) m.gen = (m, ([], false)) := by
  obtain ⟨⟨h1, h2, h3, h4, h5⟩, h6, _⟩ := (validM_iff m).1 h
  have hw := h6 m.wal List.mem_cons_self
  have hb : ∀ x ∈ m.blocks, 0 ≤ x ∧ x ≤ 999999 := fun x hx => by have := h6 x (List.mem_cons_of_mem _ hx); omega
  have hl : ((m.blocks.length : Int)).toNat = m.blocks.length := Int.toNat_natCast _
  unfold readM bodyB
  by_cases hg : m.gen < 3
  · rw [if_pos hg]
    simp only [List.flatMap_cons]
    rw [numG_put m.gen 999999 m.next _ h3 (by omega) h4]
    simp only
    rw [numG_put m.gen 999999 m.wal _ hw.1 (by omega) (by omega)]
    simp only
    rw [numG_put m.gen 40 (m.blocks.length : Int) _ (by omega) (by omega) (by omega)]
    simp only
    rw [hl]
    have := blkG_put m.gen (by omega) m.blocks 0 [] hb
    rw [List.append_nil] at this
    rw [this, if_neg (by omega)]
  · have hg3 : m.gen = 3 := by omega
    rw [if_neg hg]
    simp only [List.flatMap_cons, List.flatMap_nil, List.append_nil, List.append_assoc]
    rw [numG_put m.gen 999999 m.next _ h3 (by omega) h4]
    simp only
    rw [numG_put m.gen 999999 (m.next - m.wal) _ (by omega) (by omega) (by omega)]
    simp only
    rw [numG_put m.gen 40 (m.blocks.length : Int) _ (by omega) (by omega) (by omega)]
    simp only
    rw [hl]
    have := blkG_put3 m.blocks 0 [] hb (by omega) (by omega)
    rw [List.append_nil, ← hg3] at this
    rw [this, if_pos hg3]
    simp only [Prod.mk.injEq, and_true]
    exact Mt.ext' rfl rfl (by simp only; omega) rfl
theorem openB_headM (g : Nat) (h1 : 1 ≤ g) (h2 : g ≤ 3) (r : List UInt8) : openB (headB magicM g 0 ++ r) magicM = (g, 0, r, 0) := by
  have hl : (headB magicM g 0).length = 10 := by
    unfold headB
    rw [checkedB_len]
    rfl
  unfold openB
  rw [if_neg (by rw [List.length_append, hl]; simp [magicM])]
  have ht : (headB magicM g 0 ++ r).take (magicM.length + 6) = headB magicM g 0 := List.take_left' hl
  have hd : (headB magicM g 0 ++ r).drop (magicM.length + 6) = r := List.drop_left' hl
  rw [ht, hd, show goodB (headB magicM g 0) = some (magicM ++ [UInt8.ofNat g, UInt8.ofNat 0]) from goodB_tail _]
  simp only
  rcases (show g = 1 ∨ g = 2 ∨ g = 3 by omega) with rfl | rfl | rfl <;> rfl
theorem numB_len (g n : Int) : (numB g n).length ≤ 10 := by
  unfold numB
  split
  · rw [Num.wide_len]
    omega
  · exact (Num.small_len _).2
theorem flat_len (g : Int) : ∀ l : List Int, (l.flatMap (numB g)).length ≤ l.length * 10
  | [] => Nat.le_refl _
  | x :: l => by
    have := numB_len g x
    have := flat_len g l
    rw [List.flatMap_cons, List.length_append, List.length_cons]
    omega
theorem dlt_len : ∀ (l : List Int) (last : Int), (dltB last l).length ≤ l.length * 10
  | [], _ => Nat.le_refl _
  | x :: l, last => by
    have := (Num.small_len (Num.zigI (x - last)).toNat).2
    have := dlt_len l x
    rw [dltB, List.length_append, List.length_cons]
    omega
theorem body_len (m : Mt) (h : m.blocks.length ≤ 40) : (bodyB m).length ≤ 430 := by
  unfold bodyB
  split
  · have := flat_len m.gen (m.next :: m.wal :: (m.blocks.length : Int) :: m.blocks)
    simp only [List.length_cons] at this
    omega
  · have h1 := flat_len m.gen [m.next, m.next - m.wal, (m.blocks.length : Int)]
    have h2 := dlt_len m.blocks 0
    rw [List.length_append]
    simp only [List.length_cons, List.length_nil] at h1
    omega
/-- What is put is got again. -/
theorem getM_put (m : Mt) (h : validM m = true) : getM (putM m).1 = (some m, 0) := by
  obtain ⟨⟨h1, h2, _, _, h5⟩, _⟩ := (validM_iff m).1 h
  have hp : putM m = (headB magicM m.gen.toNat 0 ++ framePut (bodyB m), 0) := by
    unfold putM
    rw [if_pos h]
  have hb := body_len m h5
  have hf := frameGet_put (bodyB m) [] 1000 (by omega) (by omega)
  rw [List.append_nil] at hf
  unfold getM
  rw [hp]
  simp only
  rw [openB_headM m.gen.toNat (by omega) (by omega)]
  simp only
  rw [hf, Int.toNat_of_nonneg (by omega), readM_put m h]
  simp only
  rw [if_neg (by simp), if_neg (by simp [doneB]), if_pos hp]
/-- Nothing else is got. -/
theorem getM_some (s : List UInt8) (m : Mt) (e : Int) (h : getM s = (some m, e)) : e = 0 ∧ putM m = (s, 0) ∧ validM m = true := by
  unfold getM at h
  split at h
  rename_i g f rest e2 ho
  split at h
  · cases h
  · split at h
    · cases h
    · split at h
      · rename_i hp
        obtain ⟨h1, rfl⟩ := Prod.mk.inj h
        obtain rfl := Option.some.inj h1
        refine ⟨rfl, hp, ?_⟩
        cases hv : validM (readM (frameGet rest 1000).1 g).1 with
        | true => rfl
        | false =>
          unfold putM at hp
          rw [hv] at hp
          simp at hp
      · cases h
theorem openB_errM (s : List UInt8) : (openB s magicM).2.2.2 = 0 ∨ (openB s magicM).2.2.2 = 9 ∨ (openB s magicM).2.2.2 = 10 := by
  unfold openB
  split
  · exact .inr (.inl rfl)
  · split
    · exact .inr (.inl rfl)
    · split
      · exact .inr (.inl rfl)
      · split
        · exact .inr (.inr rfl)
        · split
          · exact .inr (.inl rfl)
          · exact .inl rfl
theorem getM_none (s : List UInt8) (h : (getM s).1 = none) : (getM s).2 = 9 ∨ (getM s).2 = 10 := by
  have ho := openB_errM s
  unfold getM at h ⊢
  split at h
  rename_i g f rest e2 he
  rw [he] at ho
  simp only at ho
  split
  · simp only
    omega
  · rename_i h1
    rw [if_neg h1] at h
    split
    · exact .inl rfl
    · rename_i h2
      rw [if_neg h2] at h
      split
      · rename_i h3
        rw [if_pos h3] at h
        cases h
      · exact .inl rfl
end Go.Proofs.YtgehgjalkponfaaGreatDoor
