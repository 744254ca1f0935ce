/- A meta as bytes, and what bytes tell: in plain words. What is put is got again, and nothing else is. Names of files, and of what file a name is: in plain words. Whether a meta may be: by a sorted row of its numbers. In plain words. What the package variables of the library hold; the name of a file. strings.Builder's copyCheck and WriteString: turned from the kit's shelf texts to this program. A region that draws its order, with an append onto a row of the call's own in its middle. All blocks but some are as they were; a world turns, and with it what is held; what kind of block it is. Over any program. A region that draws its order: a call one of whose arguments is hidden. Over any program. A region that draws its order, some of whose operations come in one row (each behind the one before it) and turn the world: phases. The others make memory alone. A region that draws its order, with a row of calls that turn the world: an operation one of whose slots is hidden. Over any program. -/
import Derived.Test.YtgagcncmlonciaaGreatDoorGC
import Derived.Test.YtgagcncmlonciaaGreatDoorGA
import Derived.Lib.AtoiAllCases
import Derived.Lib.ItoaNum
import Derived.Lib.IndexMore
import Derived.Lib.SlicesCompact
import Derived.Test.YtgagcncmlonciaaGreatDoorGB
import Derived.Test.YtgagcncmlonciaaGreatDoorShelfM
import Derived.Lib.SmallJoins
import Derived.Lib.ItoaMem
import Derived.Lib.AppendIntMem
import Derived.Lib.AtoiErrMem
import Derived.Test.YtgagcncmlonciaaGreatDoorChecked
import Derived.Lib.Builder
import Derived.Lib.FrozenHead
import Derived.Laws.Externs
import Derived.Maps.AppendAt
import Derived.Maps.OwnSet
import Derived.Maps.OwnOps
import Derived.WalkSpells
namespace Go.Proofs.YtgagcncmlonciaaGreatDoor
open Go.RowKit
attribute [local go_sem] bs_toList bs_size

/-- What a store is made of. -/
structure Mt where
  gen : Int
  next : Int
  wal : Int
  blocks : List Int
theorem Mt.ext' {m n : Mt} (h1 : m.gen = n.gen) (h2 : m.next = n.next) (h3 : m.wal = n.wal) (h4 : m.blocks = n.blocks) : m = n := by
  cases m
  cases n
  simp_all
def magicM : List UInt8 := [65, 77, 69, 84]
/-- May it be? -/
def validM (m : Mt) : Bool := decide (1 ≤ m.gen ∧ m.gen ≤ 3 ∧ 0 ≤ m.next ∧ m.next ≤ 999999 ∧ m.blocks.length ≤ 40) && (decide (∀ x ∈ m.wal :: m.blocks, 0 ≤ x ∧ x < m.next) && decide ((m.wal :: m.blocks).Nodup))
theorem validM_iff (m : Mt) : validM m = true ↔ (1 ≤ m.gen ∧ m.gen ≤ 3 ∧ 0 ≤ m.next ∧ m.next ≤ 999999 ∧ m.blocks.length ≤ 40) ∧ (∀ x ∈ m.wal :: m.blocks, 0 ≤ x ∧ x < m.next) ∧ (m.wal :: m.blocks).Nodup := by
  unfold validM
  rw [Bool.and_eq_true, Bool.and_eq_true, decide_eq_true_eq, decide_eq_true_eq, decide_eq_true_eq]
/-- A number as a generation has it. -/
def numB (g n : Int) : List UInt8 := if g = 1 then Num.wide (u64N n) else Num.small (u64N n)
def dltB : Int → List Int → List UInt8
  | _, [] => []
  | last, b :: l => Num.small (Num.zigI (b - last)).toNat ++ dltB b l
def bodyB (m : Mt) : List UInt8 :=
  if m.gen < 3 then (m.next :: m.wal :: (m.blocks.length : Int) :: m.blocks).flatMap (numB m.gen)
  else [m.next, m.next - m.wal, (m.blocks.length : Int)].flatMap (numB m.gen) ++ dltB 0 m.blocks
/-- One as bytes; or an error. -/
def putM (m : Mt) : List UInt8 × Int := if validM m then (headB magicM m.gen.toNat 0 ++ framePut (bodyB m), 0) else ([], 1)
/-- A number of a generation, at most so great; else the bytes are bad. -/
def numG (g : Int) (most : Nat) (c : CS) : Int × CS :=
  if (most : Int) < (if g = 1 then wV c else sV c) then (0, ((if g = 1 then wN c else sN c).1, true)) else (if g = 1 then wV c else sV c, if g = 1 then wN c else sN c)
def wr64 (n : Int) : Int := IntKind.i64.wrap n
def blkG (g : Int) : Nat → Int → CS → List Int × CS
  | 0, _, c => ([], c)
  | q + 1, last, c => if g = 3 then (wr64 (last + Num.zagI (sV c)) :: (blkG g q (wr64 (last + Num.zagI (sV c))) (sN c)).1, (blkG g q (wr64 (last + Num.zagI (sV c))) (sN c)).2)
    else ((numG g 999999 c).1 :: (blkG g q (numG g 999999 c).1 (numG g 999999 c).2).1, (blkG g q (numG g 999999 c).1 (numG g 999999 c).2).2)
/-- The meta that bytes may be; and what is left. -/
def readM (b : List UInt8) (g : Int) : Mt × CS :=
  let a := numG g 999999 (b, false)
  let w := numG g 999999 a.2
  let n := numG g 40 w.2
  let l := blkG g n.1.toNat 0 n.2
  (⟨g, a.1, if g = 3 then a.1 - w.1 else w.1, l.1⟩, l.2)
/-- The one that bytes are; or an error. -/
def getM (s : List UInt8) : Option Mt × Int :=
  match openB s magicM with
  | (g, _, rest, e) => if e ≠ 0 then (none, e)
    else if (frameGet rest 1000).2.2 ≠ 0 ∨ (frameGet rest 1000).2.1 ≠ [] ∨ doneB (readM (frameGet rest 1000).1 g).2.1 (readM (frameGet rest 1000).1 g).2.2 = false then (none, 9)
    else if putM (readM (frameGet rest 1000).1 g).1 = (s, 0) then (some (readM (frameGet rest 1000).1 g).1, 0) else (none, 9)

theorem u64N_pos (n : Int) (h : 0 ≤ n) (h2 : n ≤ 999999) : ((u64N n : Nat) : Int) = n ∧ u64N n < 18446744073709551616 := by
  unfold u64N
  omega
theorem numG_put (g : Int) (most : Nat) (n : Int) (r : List UInt8) (h0 : 0 ≤ n) (h1 : n ≤ most) (h2 : n ≤ 999999) : numG g most (numB g n ++ r, false) = (n, (r, false)) := by
  obtain ⟨e1, e2⟩ := u64N_pos n h0 h2
  unfold numG numB
  by_cases hg : g = 1
  · simp only [if_pos hg]
    rw [wV_wide _ _ e2, wN_wide _ _ e2, e1, if_neg (by omega)]
  · simp only [if_neg hg]
    rw [sV_small _ _ e2, sN_small _ _ e2, e1, if_neg (by omega)]
theorem blkG_put (g : Int) (hg : g ≠ 3) : ∀ (l : List Int) (last : Int) (r : List UInt8), (∀ x ∈ l, 0 ≤ x ∧ x ≤ 999999) → blkG g l.length last (l.flatMap (numB g) ++ r, false) = (l, (r, false))
  | [], _, r, _ => rfl
  | x :: l, last, r, h => by
    obtain ⟨h1, h2⟩ := h x List.mem_cons_self
    rw [List.flatMap_cons, List.append_assoc, List.length_cons, blkG, if_neg hg, numG_put g 999999 x _ h1 h2 h2]
    rw [blkG_put g hg l x r fun y hy => h y (List.mem_cons_of_mem _ hy)]
theorem wr64_id (n : Int) (h1 : -9223372036854775808 ≤ n) (h2 : n ≤ 9223372036854775807) : wr64 n = n := by
  unfold wr64
  simp [IntKind.wrap, IntKind.bits, IntKind.signed]
  omega
theorem blkG_put3 : ∀ (l : List Int) (last : Int) (r : List UInt8), (∀ x ∈ l, 0 ≤ x ∧ x ≤ 999999) → 0 ≤ last → last ≤ 999999 → blkG 3 l.length last (dltB last l ++ r, false) = (l, (r, false))
  | [], _, r, _, _, _ => rfl
  | x :: l, last, r, h, h3, h4 => by
    obtain ⟨h1, h2⟩ := h x List.mem_cons_self
    have hz := Num.zig_bd (x - last) (by omega) (by omega)
    have hz2 : ((Num.zigI (x - last)).toNat : Int) = Num.zigI (x - last) := Int.toNat_of_nonneg hz.1
    rw [dltB, List.append_assoc, List.length_cons, blkG, if_pos rfl, sV_small _ _ (by omega), sN_small _ _ (by omega), hz2, Num.zag_zig, show last + (x - last) = x by omega, wr64_id x (by omega) (by omega)]
    rw [blkG_put3 l x r (fun y hy => h y (List.mem_cons_of_mem _ hy)) h1 h2]
/-- What is put is read. -/
theorem readM_put (m : Mt) (h : validM m = true) : readM (bodyB m) m.gen = (m, ([], false)) := by
  obtain ⟨⟨h1, h2, h3, h4, h5⟩, h6, _⟩ := (validM_iff m).1 h
  have hw := h6 m.wal List.mem_cons_self
  have hb : ∀ x ∈ m.blocks, 0 ≤ x ∧ x ≤ 999999 := fun x hx => by have := h6 x (List.mem_cons_of_mem _ hx); omega
  have hl : ((m.blocks.length : Int)).toNat = m.blocks.length := Int.toNat_natCast _
  unfold readM bodyB
  by_cases hg : m.gen < 3
  · rw [if_pos hg]
    simp only [List.flatMap_cons]
    rw [numG_put m.gen 999999 m.next _ h3 (by omega) h4]
    simp only
    rw [numG_put m.gen 999999 m.wal _ hw.1 (by omega) (by omega)]
    simp only
    rw [numG_put m.gen 40 (m.blocks.length : Int) _ (by omega) (by omega) (by omega)]
    simp only
    rw [hl]
    have := blkG_put m.gen (by omega) m.blocks 0 [] hb
    rw [List.append_nil] at this
    rw [this, if_neg (by omega)]
  · have hg3 : m.gen = 3 := by omega
    rw [if_neg hg]
    simp only [List.flatMap_cons, List.flatMap_nil, List.append_nil, List.append_assoc]
    rw [numG_put m.gen 999999 m.next _ h3 (by omega) h4]
    simp only
    rw [numG_put m.gen 999999 (m.next - m.wal) _ (by omega) (by omega) (by omega)]
    simp only
    rw [numG_put m.gen 40 (m.blocks.length : Int) _ (by omega) (by omega) (by omega)]
    simp only
    rw [hl]
    have := blkG_put3 m.blocks 0 [] hb (by omega) (by omega)
    rw [List.append_nil, ← hg3] at this
    rw [this, if_pos hg3]
    simp only [Prod.mk.injEq, and_true]
    exact Mt.ext' rfl rfl (by simp only; omega) rfl
theorem openB_headM (g : Nat) (h1 : 1 ≤ g) (h2 : g ≤ 3) (r : List UInt8) : openB (headB magicM g 0 ++ r) magicM = (g, 0, r, 0) := by
  have hl : (headB magicM g 0).length = 10 := by
    unfold headB
    rw [checkedB_len]
    rfl
  unfold openB
  rw [if_neg (by rw [List.length_append, hl]; simp [magicM])]
  have ht : (headB magicM g 0 ++ r).take (magicM.length + 6) = headB magicM g 0 := List.take_left' hl
  have hd : (headB magicM g 0 ++ r).drop (magicM.length + 6) = r := List.drop_left' hl
  rw [ht, hd, show goodB (headB magicM g 0) = some (magicM ++ [UInt8.ofNat g, UInt8.ofNat 0]) from goodB_tail _]
  simp only
  rcases (show g = 1 ∨ g = 2 ∨ g = 3 by omega) with rfl | rfl | rfl <;> rfl
theorem numB_len (g n : Int) : (numB g n).length ≤ 10 := by
  unfold numB
  split
  · rw [Num.wide_len]
    omega
  · exact (Num.small_len _).2
theorem flat_len (g : Int) : ∀ l : List Int, (l.flatMap (numB g)).length ≤ l.length * 10
  | [] => Nat.le_refl _
  | x :: l => by
    have := numB_len g x
    have := flat_len g l
    rw [List.flatMap_cons, List.length_append, List.length_cons]
    omega
theorem dlt_len : ∀ (l : List Int) (last : Int), (dltB last l).length ≤ l.length * 10
  | [], _ => Nat.le_refl _
  | x :: l, last => by
    have := (Num.small_len (Num.zigI (x - last)).toNat).2
    have := dlt_len l x
    rw [dltB, List.length_append, List.length_cons]
    omega
theorem body_len (m : Mt) (h : m.blocks.length ≤ 40) : (bodyB m).length ≤ 430 := by
  unfold bodyB
  split
  · have := flat_len m.gen (m.next :: m.wal :: (m.blocks.length : Int) :: m.blocks)
    simp only [List.length_cons] at this
    omega
  · have h1 := flat_len m.gen [m.next, m.next - m.wal, (m.blocks.length : Int)]
    have h2 := dlt_len m.blocks 0
    rw [List.length_append]
    simp only [List.length_cons, List.length_nil] at h1
    omega
/-- What is put is got again. -/
theorem getM_put (m : Mt) (h : validM m = true) : getM (putM m).1 = (some m, 0) := by
  obtain ⟨⟨h1, h2, _, _, h5⟩, _⟩ := (validM_iff m).1 h
  have hp : putM m = (headB magicM m.gen.toNat 0 ++ framePut (bodyB m), 0) := by
    unfold putM
    rw [if_pos h]
  have hb := body_len m h5
  have hf := frameGet_put (bodyB m) [] 1000 (by omega) (by omega)
  rw [List.append_nil] at hf
  unfold getM
  rw [hp]
  simp only
  rw [openB_headM m.gen.toNat (by omega) (by omega)]
  simp only
  rw [hf, Int.toNat_of_nonneg (by omega), readM_put m h]
  simp only
  rw [if_neg (by simp), if_neg (by simp [doneB]), if_pos hp]
/-- Nothing else is got. -/
theorem getM_some (s : List UInt8) (m : Mt) (e : Int) (h : getM s = (some m, e)) : e = 0 ∧ putM m = (s, 0) ∧ validM m = true := by
  unfold getM at h
  split at h
  rename_i g f rest e2 ho
  split at h
  · cases h
  · split at h
    · cases h
    · split at h
      · rename_i hp
        obtain ⟨h1, rfl⟩ := Prod.mk.inj h
        obtain rfl := Option.some.inj h1
        refine ⟨rfl, hp, ?_⟩
        cases hv : validM (readM (frameGet rest 1000).1 g).1 with
        | true => rfl
        | false =>
          unfold putM at hp
          rw [hv] at hp
          simp at hp
      · cases h
theorem openB_errM (s : List UInt8) : (openB s magicM).2.2.2 = 0 ∨ (openB s magicM).2.2.2 = 9 ∨ (openB s magicM).2.2.2 = 10 := by
  unfold openB
  split
  · exact .inr (.inl rfl)
  · split
    · exact .inr (.inl rfl)
    · split
      · exact .inr (.inl rfl)
      · split
        · exact .inr (.inr rfl)
        · split
          · exact .inr (.inl rfl)
          · exact .inl rfl
theorem getM_none (s : List UInt8) (h : (getM s).1 = none) : (getM s).2 = 9 ∨ (getM s).2 = 10 := by
  have ho := openB_errM s
  unfold getM at h ⊢
  split at h
  rename_i g f rest e2 he
  rw [he] at ho
  simp only at ho
  split
  · simp only
    omega
  · rename_i h1
    rw [if_neg h1] at h
    split
    · exact .inl rfl
    · rename_i h2
      rw [if_neg h2] at h
      split
      · rename_i h3
        rw [if_pos h3] at h
        cases h
      · exact .inl rfl
end Go.Proofs.YtgagcncmlonciaaGreatDoor
namespace Go.Proofs.YtgagcncmlonciaaGreatDoor
open Go.RowKit

def dig (n i : Nat) : UInt8 := UInt8.ofNat (48 + n / 10 ^ i % 10)
/-- Six digits of a number. -/
def six (n : Nat) : List UInt8 := [dig n 5, dig n 4, dig n 3, dig n 2, dig n 1, dig n 0]
def walK : List UInt8 := [119, 97, 108]
def blockK : List UInt8 := [98, 108, 111, 99, 107]
/-- The name of a file. -/
def nameB (kind : List UInt8) (n : Int) : List UInt8 := if n < 0 ∨ 999999 < n then [] else kind ++ 45 :: six n.toNat
theorem dig_toNat (n i : Nat) : (dig n i).toNat = 48 + n / 10 ^ i % 10 := by
  unfold dig
  have : n / 10 ^ i % 10 < 10 := Nat.mod_lt _ (by decide)
  simp
  omega
theorem dd_small (u : Nat) (h : u < 10) : Lib.decDigits u = [UInt8.ofNat (48 + u)] := by rw [Lib.decDigits, dif_pos h]
theorem dd_big (u : Nat) (h : ¬ u < 10) : Lib.decDigits u = Lib.decDigits (u / 10) ++ [UInt8.ofNat (48 + u % 10)] := by rw [Lib.decDigits, dif_neg h]
theorem dig_zero (n i : Nat) (h : n < 10 ^ i) : dig n i = 48 := by
  unfold dig
  rw [Nat.div_eq_of_lt h]
  rfl
/-- Digits, and zeros ahead. -/
theorem six_itoa (n : Nat) (h : n ≤ 999999) : (Lib.decDigits n).length ≤ 6 ∧ List.replicate (6 - (Lib.decDigits n).length) 48 ++ Lib.decDigits n = six n := by
  unfold six
  by_cases h1 : n < 10
  · rw [dd_small n h1, dig_zero n 5 (by omega), dig_zero n 4 (by omega), dig_zero n 3 (by omega), dig_zero n 2 (by omega), dig_zero n 1 (by omega), show dig n 0 = UInt8.ofNat (48 + n) by unfold dig; rw [Nat.pow_zero, Nat.div_one, Nat.mod_eq_of_lt h1]]
    exact ⟨by simp, rfl⟩
  rw [dd_big n h1]
  have d0 : UInt8.ofNat (48 + n % 10) = dig n 0 := by unfold dig; rw [Nat.pow_zero, Nat.div_one]
  rw [d0]
  by_cases h2 : n / 10 < 10
  · rw [dd_small _ h2, dig_zero n 5 (by omega), dig_zero n 4 (by omega), dig_zero n 3 (by omega), dig_zero n 2 (by omega), show dig n 1 = UInt8.ofNat (48 + n / 10) by unfold dig; rw [Nat.pow_one, Nat.mod_eq_of_lt h2]]
    exact ⟨by simp, rfl⟩
  rw [dd_big _ h2]
  have d1 : UInt8.ofNat (48 + n / 10 % 10) = dig n 1 := by unfold dig; rw [Nat.pow_one]
  rw [d1]
  have e2 : n / 10 / 10 = n / 10 ^ 2 := by rw [Nat.div_div_eq_div_mul]
  rw [e2]
  by_cases h3 : n / 10 ^ 2 < 10
  · rw [dd_small _ h3, dig_zero n 5 (by omega), dig_zero n 4 (by omega), dig_zero n 3 (by omega), show dig n 2 = UInt8.ofNat (48 + n / 10 ^ 2) by unfold dig; rw [Nat.mod_eq_of_lt h3]]
    exact ⟨by simp, rfl⟩
  rw [dd_big _ h3, show UInt8.ofNat (48 + n / 10 ^ 2 % 10) = dig n 2 from rfl, show n / 10 ^ 2 / 10 = n / 10 ^ 3 by rw [Nat.div_div_eq_div_mul]]
  by_cases h4 : n / 10 ^ 3 < 10
  · rw [dd_small _ h4, dig_zero n 5 (by omega), dig_zero n 4 (by omega), show dig n 3 = UInt8.ofNat (48 + n / 10 ^ 3) by unfold dig; rw [Nat.mod_eq_of_lt h4]]
    exact ⟨by simp, rfl⟩
  rw [dd_big _ h4, show UInt8.ofNat (48 + n / 10 ^ 3 % 10) = dig n 3 from rfl, show n / 10 ^ 3 / 10 = n / 10 ^ 4 by rw [Nat.div_div_eq_div_mul]]
  by_cases h5 : n / 10 ^ 4 < 10
  · rw [dd_small _ h5, dig_zero n 5 (by omega), show dig n 4 = UInt8.ofNat (48 + n / 10 ^ 4) by unfold dig; rw [Nat.mod_eq_of_lt h5]]
    exact ⟨by simp, rfl⟩
  rw [dd_big _ h5, show UInt8.ofNat (48 + n / 10 ^ 4 % 10) = dig n 4 from rfl, show n / 10 ^ 4 / 10 = n / 10 ^ 5 by rw [Nat.div_div_eq_div_mul]]
  have h6 : n / 10 ^ 5 < 10 := by omega
  rw [dd_small _ h6, show dig n 5 = UInt8.ofNat (48 + n / 10 ^ 5) by unfold dig; rw [Nat.mod_eq_of_lt h6]]
  exact ⟨by simp, rfl⟩
theorem pu_step (acc : Nat) (n i : Nat) (r : List UInt8) (h : acc < 1000000000) : Lib.parseUint10 acc (dig n i :: r) = Lib.parseUint10 (acc * 10 + n / 10 ^ i % 10) r := by
  have hd := dig_toNat n i
  have hm : n / 10 ^ i % 10 < 10 := Nat.mod_lt _ (by decide)
  rw [Lib.parseUint10, if_pos (by omega), if_neg (by omega), if_neg (by omega), hd, show 48 + n / 10 ^ i % 10 - 48 = n / 10 ^ i % 10 by omega]
/-- What six digits spell. -/
theorem atoi_six (n : Nat) (h : n ≤ 999999) : Lib.atoiAll (six n) = .ok (n : Int) := by
  have hd := dig_toNat n 5
  have hm : ∀ i, n / 10 ^ i % 10 < 10 := fun i => Nat.mod_lt _ (by decide)
  have h5 := hm 5
  unfold six
  rw [Lib.atoiAll_plain _ _ (by omega) (by omega)]
  unfold Lib.parseMag
  rw [if_neg (by simp), pu_step _ _ _ _ (by omega)]
  have h4 := hm 4
  have h3 := hm 3
  have h2 := hm 2
  have h1 := hm 1
  have h0 := hm 0
  rw [pu_step _ _ _ _ (by omega), pu_step _ _ _ _ (by omega), pu_step _ _ _ _ (by omega), pu_step _ _ _ _ (by omega), pu_step _ _ _ _ (by omega), Lib.parseUint10]
  have e : (((((0 * 10 + n / 10 ^ 5 % 10) * 10 + n / 10 ^ 4 % 10) * 10 + n / 10 ^ 3 % 10) * 10 + n / 10 ^ 2 % 10) * 10 + n / 10 ^ 1 % 10) * 10 + n / 10 ^ 0 % 10 = n := by omega
  rw [e]
  unfold Lib.signless
  simp only
  rw [if_neg (by omega)]
theorem six_inj (a b : Nat) (ha : a ≤ 999999) (hb : b ≤ 999999) (h : six a = six b) : a = b := by
  have h1 := atoi_six a ha
  rw [h, atoi_six b hb] at h1
  injection h1 with h1
  omega
theorem six_len (n : Nat) : (six n).length = 6 := rfl
/-- Where the first of a byte is. -/
theorem index_first : ∀ (k r : List UInt8), (45 : UInt8) ∉ k → Lib.index (k ++ 45 :: r) [45] = k.length
  | [], r, _ => by
    rw [List.nil_append, Lib.index, if_pos (by simp)]
    rfl
  | x :: k, r, h => by
    have ih := index_first k r fun e => h (List.mem_cons_of_mem _ e)
    have hx : x ≠ 45 := fun e => h (e ▸ List.mem_cons_self)
    rw [List.cons_append, Lib.index, if_neg (by simp; exact fun e => hx e.symm), ih]
    rw [if_neg (by simp; try omega), List.length_cons]
    rfl
theorem cut_first (k r : List UInt8) (h : (45 : UInt8) ∉ k) : Lib.cut (k ++ 45 :: r) [45] = (k, r, true) := by
  unfold Lib.cut
  rw [index_first k r h, if_pos (by omega), Int.toNat_natCast, List.take_left' rfl]
  have : (k ++ 45 :: r).drop (k.length + ([45] : List UInt8).length) = r := by
    rw [show k ++ 45 :: r = (k ++ [45]) ++ r by simp, List.drop_left' (by simp)]
  rw [this]
/-- Of what file a name is. -/
def parseB (name : List UInt8) : List UInt8 × Int × Bool := match Lib.atoiAll (Lib.cut name [45]).2.1 with
  | .ok n => if ((Lib.cut name [45]).1 = walK ∨ (Lib.cut name [45]).1 = blockK) ∧ nameB (Lib.cut name [45]).1 n = name then ((Lib.cut name [45]).1, n, true) else ([], 0, false)
  | _ => ([], 0, false)
theorem kind_dash (k : List UInt8) (h : k = walK ∨ k = blockK) : (45 : UInt8) ∉ k := by
  rcases h with rfl | rfl <;> decide
theorem parse_name (k : List UInt8) (n : Int) (hk : k = walK ∨ k = blockK) (h0 : 0 ≤ n) (h1 : n ≤ 999999) : parseB (nameB k n) = (k, n, true) := by
  have hn : nameB k n = k ++ 45 :: six n.toNat := by
    unfold nameB
    rw [if_neg (by omega)]
  have hc := cut_first k (six n.toNat) (kind_dash k hk)
  unfold parseB
  rw [hn, hc]
  simp only
  rw [atoi_six _ (by omega)]
  simp only
  rw [Int.toNat_of_nonneg h0, if_pos ⟨hk, hn⟩]
theorem parse_true (name : List UInt8) (h : (parseB name).2.2 = true) : ∃ k n, (k = walK ∨ k = blockK) ∧ 0 ≤ n ∧ n ≤ 999999 ∧ nameB k n = name ∧ parseB name = (k, n, true) := by
  unfold parseB at h ⊢
  rcases ha : Lib.atoiAll (Lib.cut name [45]).2.1 with n | _ | _
  · rw [ha] at h
    simp only at h ⊢
    by_cases hc : ((Lib.cut name [45]).1 = walK ∨ (Lib.cut name [45]).1 = blockK) ∧ nameB (Lib.cut name [45]).1 n = name
    · rw [if_pos hc]
      refine ⟨_, n, hc.1, ?_, ?_, hc.2, rfl⟩
      all_goals
        by_cases hr : n < 0 ∨ 999999 < n
        · have he := hc.2
          unfold nameB at he
          rw [if_pos hr] at he
          subst he
          rcases hc.1 with e | e <;> cases e
        · omega
    · rw [if_neg hc] at h
      cases h
  · rw [ha] at h
    cases h
  · rw [ha] at h
    cases h
theorem parse_false (name : List UInt8) (h : (parseB name).2.2 = false) : parseB name = ([], 0, false) := by
  unfold parseB at h ⊢
  split
  · split
    · rename_i h1 h2
      rw [h1] at h
      simp only at h
      rw [if_pos h2] at h
      cases h
    · rfl
  · rfl
theorem name_inj (k k' : List UInt8) (n n' : Int) (h0 : 0 ≤ n) (h1 : n ≤ 999999) (h0' : 0 ≤ n') (h1' : n' ≤ 999999) (h : nameB k n = nameB k' n') : k = k' ∧ n = n' := by
  unfold nameB at h
  rw [if_neg (by omega), if_neg (by omega)] at h
  have hl : k.length = k'.length := by
    have := congrArg List.length h
    simp only [List.length_append, List.length_cons, six_len] at this
    omega
  obtain ⟨e1, e2⟩ := List.append_inj h hl
  refine ⟨e1, ?_⟩
  have := six_inj _ _ (by omega) (by omega) (List.cons.inj e2).2
  omega
end Go.Proofs.YtgagcncmlonciaaGreatDoor
namespace Go.Proofs.YtgagcncmlonciaaGreatDoor

theorem arr_at (zs : List Int) (j : Nat) (h : j < zs.length) : zs.toArray[j]! = zs[j] := by
  simp [h]
theorem compact_len (zs : List Int) (hs : zs.Pairwise (· ≤ ·)) : (Lib.compact zs).length = zs.length ↔ zs.Nodup := by
  have h1 : (Lib.compact zs).length = zs.length ↔ ∀ j, j < zs.length → (j = 0 ∨ zs.toArray[j]! ≠ zs.toArray[j - 1]!) := by
    unfold Lib.compact Lib.compactUpTo
    rw [List.length_map]
    have := List.length_filter_eq_length_iff (p := Lib.keeps zs.toArray) (l := List.range zs.length)
    rw [List.length_range] at this
    rw [this]
    constructor
    · intro h j hj
      simpa [Lib.keeps] using h j (List.mem_range.2 hj)
    · intro h j hj
      simpa [Lib.keeps] using h j (List.mem_range.1 hj)
  rw [h1]
  have hp := List.pairwise_iff_getElem.1 hs
  constructor
  · intro h
    have hlt : ∀ j i (hj : j < zs.length) (hi : i < j), zs[i]'(by omega) < zs[j] := fun j => by
      induction j with
      | zero => intro i hj hi; omega
      | succ j ih =>
        intro i hj hi
        have h2 := h (j + 1) hj
        rw [arr_at zs (j + 1) hj, show j + 1 - 1 = j by omega, arr_at zs j (by omega)] at h2
        have h3 : zs[j] ≠ zs[j + 1] := fun e => (h2.resolve_left (by omega)) e.symm
        have h4 := hp j (j + 1) (by omega) hj (by omega)
        have h5 : zs[j]'(by omega) < zs[j + 1] := by omega
        by_cases hij : i = j
        · subst hij
          exact h5
        · have := ih i (by omega) (by omega)
          omega
    refine List.pairwise_iff_getElem.2 fun i j hi hj hij e => ?_
    have := hlt j i hj hij
    omega
  · intro h j hj
    by_cases h0 : j = 0
    · exact .inl h0
    · refine .inr fun e => ?_
      rw [arr_at zs j hj, arr_at zs (j - 1) (by omega)] at e
      exact (List.pairwise_iff_getElem.1 h) (j - 1) j (by omega) hj (by omega) e.symm
def sortI (l : List Int) : List Int := l.mergeSort fun x y => decide (x ≤ y)
theorem sortI_len (l : List Int) : (sortI l).length = l.length := List.length_mergeSort _
theorem sortI_mem (l : List Int) (x : Int) : x ∈ sortI l ↔ x ∈ l := List.mem_mergeSort
theorem sortI_sorted (l : List Int) : (sortI l).Pairwise (· ≤ ·) := by
  have := List.pairwise_mergeSort (le := fun (x y : Int) => decide (x ≤ y)) (by intro a b c; simp; omega) (by intro a b; simp; omega) l
  exact this.imp fun h => by simpa using h
theorem sortI_nodup (l : List Int) : (sortI l).Nodup ↔ l.Nodup := (List.mergeSort_perm l _).nodup_iff
/-- What the sorted row tells. -/
theorem valid_sorted (m : Mt) (h1 : 1 ≤ m.gen ∧ m.gen ≤ 3 ∧ 0 ≤ m.next ∧ m.next ≤ 999999 ∧ m.blocks.length ≤ 40) (zs : List Int) (hz : zs = sortI (m.wal :: m.blocks)) (hl : 0 < zs.length) :
    validM m = (decide ((0 : Int) ≤ zs[0]) && (decide (zs[zs.length - 1] < m.next) && decide ((Lib.compact zs).length = m.blocks.length + 1))) := by
  have hlen : zs.length = m.blocks.length + 1 := by rw [hz, sortI_len, List.length_cons]
  have hs : zs.Pairwise (· ≤ ·) := by rw [hz]; exact sortI_sorted _
  have hp := List.pairwise_iff_getElem.1 hs
  have hn : (Lib.compact zs).length = m.blocks.length + 1 ↔ (m.wal :: m.blocks).Nodup := by
    rw [← hlen, compact_len zs hs, hz, sortI_nodup]
  have hr : (∀ x ∈ m.wal :: m.blocks, 0 ≤ x ∧ x < m.next) ↔ (0 : Int) ≤ zs[0] ∧ zs[zs.length - 1] < m.next := by
    constructor
    · intro h
      have a := h zs[0] (by rw [← sortI_mem, ← hz]; exact List.getElem_mem _)
      have b := h zs[zs.length - 1] (by rw [← sortI_mem, ← hz]; exact List.getElem_mem _)
      exact ⟨a.1, b.2⟩
    · rintro ⟨h2, h3⟩ x hx
      rw [← sortI_mem, ← hz] at hx
      obtain ⟨i, hi, rfl⟩ := List.mem_iff_getElem.1 hx
      constructor
      · rcases Nat.eq_zero_or_pos i with rfl | hi0
        · exact h2
        · have := hp 0 i (by omega) hi hi0
          omega
      · by_cases hil : i = zs.length - 1
        · subst hil
          exact h3
        · have := hp i (zs.length - 1) hi (by omega) (by omega)
          omega
  have e : validM m = true ↔ ((0 : Int) ≤ zs[0] ∧ zs[zs.length - 1] < m.next) ∧ (Lib.compact zs).length = m.blocks.length + 1 := by
    rw [validM_iff, hr, hn]
    exact ⟨fun h => h.2, fun h => ⟨h1, h⟩⟩
  cases hv : validM m with
  | true =>
    have := e.1 hv
    simp [this.1.1, this.1.2, this.2]
  | false =>
    have h2 : ¬ (((0 : Int) ≤ zs[0] ∧ zs[zs.length - 1] < m.next) ∧ (Lib.compact zs).length = m.blocks.length + 1) := fun h => by
      rw [e.2 h] at hv
      cases hv
    by_cases a : (0 : Int) ≤ zs[0]
    · by_cases b : zs[zs.length - 1] < m.next
      · have c : ¬ (Lib.compact zs).length = m.blocks.length + 1 := fun h => h2 ⟨⟨a, b⟩, h⟩
        simp [a, b, c]
      · simp [a, b]
    · simp [a]
end Go.Proofs.YtgagcncmlonciaaGreatDoor
namespace Go.Proofs.YtgagcncmlonciaaGreatDoor
open Go.RowKit
attribute [local go_sem] bs_toList bs_size

/-- What is asked of the package variables of the library. -/
structure Gl (w : World) : Prop where
  pow : Lib.TabIs Tryz.prog w "internal/strconv.uint64pow10" .u64 Lib.pow10Tab
  syn : ∃ ev, w.cell? ⟨1, 0, none⟩ = some ev ∧ (ev = .nilIface ∨ ∃ te pe, ev = .iface te pe)
  rng : ∃ ev, w.cell? ⟨2, 0, none⟩ = some ev ∧ (ev = .nilIface ∨ ∃ te pe, ev = .iface te pe)
  max : ∃ m, w.cell? ⟨0, 0, none⟩ = some (.int .i64 m)
theorem gPow : Tryz.prog.globalNamed "internal/strconv.uint64pow10" = some 3 := by kernel_rfl
theorem Gl.below {w w' : World} (h : Gl w) (hb : Below w.heap.size w w') : Gl w' := by
  obtain ⟨h1, ⟨e1, h2, h2'⟩, ⟨e2, h3, h3'⟩, m, h4⟩ := h
  have f : ∀ {p : Addr} {v : Value}, w.cell? p = some v → w'.cell? p = some v := fun h => (Below.cell hb (World.block_lt_of_cell? _ _ h)).trans h
  exact ⟨Joins.tab_stays gPow h1 hb (Nat.le_refl _), ⟨e1, f h2, h2'⟩, ⟨e2, f h3, h3'⟩, m, f h4⟩
theorem bs_arr (l : List UInt8) : (⟨l.toArray⟩ : ByteArray) = bs l := rfl
theorem repeat_one (b : UInt8) : ∀ n, Lib.repeatL [b] n = List.replicate n b
  | 0 => rfl
  | n + 1 => by
    rw [List.replicate_succ, ← repeat_one b n]
    rfl

set_option maxRecDepth 100000 in
set_option maxHeartbeats 2000000 in
theorem Name_any (kind : List UInt8) (n : Int) (w : World) (hG : Gl w) (hk : kind.length ≤ 1000000) (h0 : -9223372036854775808 ≤ n) (h1 : n ≤ 9223372036854775807) :
    Calls Tryz.prog 32 #[.string (bs kind), .int .i64 n] w fun e w' => e = .returned (.string (bs (nameB kind n))) ∧ Below w.heap.size w w' := by
  by_cases hn0 : n < 0
  · have f1 : decide (n < 0) = true := by simpa using hn0
    have hN : nameB kind n = [] := by unfold nameB; rw [if_pos (.inl hn0)]
    rw [hN]
    go_enter Tryz.func32, Tryz.ntmps32
    go_wp2
    go_ret
    exact ⟨rfl, Below.refl _ _⟩
  · have f1 : decide (n < 0) = false := by simpa using hn0
    by_cases hn1 : 999999 < n
    · have f2 : decide (999999 < n) = true := by simpa using hn1
      have hN : nameB kind n = [] := by unfold nameB; rw [if_pos (.inr hn1)]
      rw [hN]
      go_enter Tryz.func32, Tryz.ntmps32
      go_wp2
      go_ret
      exact ⟨rfl, Below.refl _ _⟩
    · have f2 : decide (999999 < n) = false := by simpa using hn1
      have hN : nameB kind n = kind ++ 45 :: six n.toNat := by unfold nameB; rw [if_neg (by omega)]
      obtain ⟨hl, hs⟩ := six_itoa n.toNat (by omega)
      have hi : Lib.itoa n = Lib.decDigits n.toNat := by
        unfold Lib.itoa
        rw [if_neg hn0]
      have q := Tryz.strconv_Itoa n h0 h1 w hG.pow
      rw [hi, bs_arr] at q
      have HN := Lib.hid (show nameB kind n = (kind ++ [45]) ++ (List.replicate (6 - (Lib.decDigits n.toNat).length) 48 ++ Lib.decDigits n.toNat) by rw [hN, hs]; simp)
      generalize Lib.decDigits n.toNat = D at *
      have Q := Lib.hid q
      clear q hs hN hi
      have hsub : (6 : Int) - (D.length : Int) = ((6 - D.length : Nat) : Int) := by omega
      have QR := Lib.hid (fun W => Tryz.strings_Repeat (bs [48]) (6 - D.length) W (by omega) (by rw [bs_size]; simp; omega))
      rw [show (bs [48]).data.toList = [48] from rfl, repeat_one, bs_arr] at QR
      go_enter Tryz.func32, Tryz.ntmps32
      go_wp2_with fail
      refine Q.out.mono ?_
      rintro e w1 ⟨rfl, k, os, rfl⟩
      have hb1 := Lib.below_grow w.heap.size w (Nat.le_refl _) k os
      generalize Go.Sort.grow (w.drewN k) os = w1 at *
      go_wp2_with fail
      refine (QR.out _).mono ?_
      rintro e w2 ⟨rfl, hb2⟩
      go_wp2_with fail
      go_ret
      refine ⟨?_, hb1.trans (hb2.mono hb1.size)⟩
      rw [HN.out, show (⟨#[45]⟩ : ByteArray) = bs [45] from rfl, bs_append, bs_append, bs_append, ← List.append_assoc]
      rfl
def tmpK : List UInt8 := [116, 109, 112, 45]
set_option maxRecDepth 100000 in
theorem Temp_any (name : List UInt8) (w : World) (hl : name.length ≤ 1000000) :
    Calls Tryz.prog 86 #[.string (bs name)] w fun e w' => e = .returned (.string (bs (tmpK ++ name))) ∧ w' = w := by
  go_enter Tryz.func86, Tryz.ntmps86
  go_wp2
  go_ret
  refine ⟨?_, rfl⟩
  rw [← bs_append]
  rfl
/-- What Atoi answers. -/
theorem Atoi_any (s : List UInt8) (w : World) (hG : Gl w) (hl : s.length ≤ 1000000) :
    Calls Tryz.prog 107 #[.string (bs s)] w fun e w' => Below w.heap.size w w' ∧ match Lib.atoiAll s with
      | .ok v => e = .returned (.tuple #[.int .i64 v, .nilIface])
      | _ => ∃ v te pe, e = .returned (.tuple #[.int .i64 v, .iface te pe]) := by
  have hd : (bs s).data.toList = s := bs_data s
  rcases ha : Lib.atoiAll s with v | _ | _
  · refine (Tryz.strconv_Atoi_ok (bs s) (by rw [bs_size]; omega) v (by rw [hd]; exact ha) w).mono fun e w' ⟨h1, h2⟩ => ⟨?_, h1⟩
    rcases h2 with rfl | ⟨t, rfl⟩
    · exact Below.refl _ _
    · exact Joins.below_bytesWorld _ _ _ _ (Nat.le_refl _)
  · obtain ⟨ev, h1, h2⟩ := hG.syn
    exact (Tryz.strconv_Atoi_syntax (bs s) (by rw [bs_size]; omega) (by rw [hd]; exact ha) ev w h1 h2).mono fun e w' ⟨N, h3, _, _, h4⟩ => ⟨h4, _, _, _, h3⟩
  · obtain ⟨ev, h1, h2⟩ := hG.rng
    exact (Tryz.strconv_Atoi_range (bs s) (by rw [bs_size]; omega) (by rw [hd]; exact ha) ev w h1 h2).mono fun e w' ⟨N, h3, _, _, h4⟩ => ⟨h4, _, _, _, h3⟩
theorem cut_len (s : List UInt8) : (Lib.cut s [45]).1.length ≤ s.length ∧ (Lib.cut s [45]).2.1.length ≤ s.length := by
  unfold Lib.cut
  split
  · simp
    omega
  · simp
def parseV (x : List UInt8 × Int × Bool) : Value := .tuple #[.string (bs x.1), .int .i64 x.2.1, .bool x.2.2]
set_option maxRecDepth 100000 in
set_option maxHeartbeats 2000000 in
theorem Parse_any (name : List UInt8) (w : World) (hG : Gl w) (hl : name.length ≤ 1000000) :
    Calls Tryz.prog 59 #[.string (bs name)] w fun e w' => e = .returned (parseV (parseB name)) ∧ Below w.heap.size w w' := by
  obtain ⟨m, hm⟩ := hG.max
  have q := Tryz.strings_Cut (bs name) (bs [45]) m w (by rw [bs_size]; omega) hm
  rw [bs_data, bs_data, bs_arr, bs_arr] at q
  have hcl := cut_len name
  have HP := Lib.hid (show parseB name = match Lib.atoiAll (Lib.cut name [45]).2.1 with
    | .ok n => if ((Lib.cut name [45]).1 = walK ∨ (Lib.cut name [45]).1 = blockK) ∧ nameB (Lib.cut name [45]).1 n = name then ((Lib.cut name [45]).1, n, true) else ([], 0, false)
    | _ => ([], 0, false) from rfl)
  generalize parseB name = PB at *
  obtain ⟨⟨K, S, fd⟩, hc⟩ : ∃ x, Lib.cut name [45] = x := ⟨_, rfl⟩
  rw [hc] at q hcl HP
  simp only at q hcl HP
  have Q := Lib.hid q
  have QA := Lib.hid (fun W (hW : Below w.heap.size w W) => Atoi_any S W (hG.below hW) (by omega))
  clear q hm
  go_enter Tryz.func59, Tryz.ntmps59
  go_wp2_with fail
  refine Q.out.mono ?_
  rintro e w1 ⟨rfl, k, rfl⟩
  have hb1 : Below w.heap.size w (w.drewN k) := ⟨rfl, rfl, rfl, Nat.le_refl _, fun _ _ => rfl⟩
  generalize w.drewN k = w1 at *
  go_wp2_with fail
  refine (QA.out w1 hb1).mono ?_
  rintro e w2 ⟨hb2, h⟩
  have hB2 := hb1.trans (hb2.mono hb1.size)
  rcases ha : Lib.atoiAll S with n | _ | _
  rotate_left 1
  · rw [ha] at h
    obtain ⟨v, te, pe, rfl⟩ := h
    have HY := Lib.hid (show PB = ([], 0, false) by rw [HP.out, ha])
    clear QA Q HP ha
    go_wp2_with fail
    go_ret3
    exact ⟨by rw [HY.out]; rfl, hB2⟩
  · rw [ha] at h
    obtain ⟨v, te, pe, rfl⟩ := h
    have HY := Lib.hid (show PB = ([], 0, false) by rw [HP.out, ha])
    clear QA Q HP ha
    go_wp2_with fail
    go_ret3
    exact ⟨by rw [HY.out]; rfl, hB2⟩
  · rw [ha] at h
    subst h
    by_cases hk1 : K = [119, 97, 108]
    · subst hk1
      have hbd := Lib.atoiAll_bounds ha
      have QN := Lib.hid (Name_any [119, 97, 108] n w2 (hG.below hB2) (by simp) hbd.1 hbd.2)
      have HX := Lib.hid (show PB = if nameB [119, 97, 108] n = name then ([119, 97, 108], n, true) else ([], 0, false) by rw [HP.out, ha]; simp [walK, blockK])
      clear QA Q HP ha
      go_wp2_with fail
      refine QN.out.mono ?_
      rintro e w3 ⟨rfl, hb3⟩
      have hB3 := hB2.trans (hb3.mono hB2.size)
      by_cases hz : nameB [119, 97, 108] n = name
      · have HY := Lib.hid (show PB = ([119, 97, 108], n, true) by rw [HX.out, if_pos hz])
        have f1 : (nameB [119, 97, 108] n == name) = true := by simpa using hz
        clear hz HX
        go_wp2_with fail
        go_ret3
        exact ⟨by rw [HY.out]; rfl, hB3⟩
      · have HY := Lib.hid (show PB = ([], 0, false) by rw [HX.out, if_neg hz])
        have f1 : (nameB [119, 97, 108] n == name) = false := by simpa using hz
        clear hz HX
        go_wp2_with fail
        go_ret3
        exact ⟨by rw [HY.out]; rfl, hB3⟩
    · by_cases hk2 : K = [98, 108, 111, 99, 107]
      · subst hk2
        have hbd := Lib.atoiAll_bounds ha
        have QN := Lib.hid (Name_any [98, 108, 111, 99, 107] n w2 (hG.below hB2) (by simp) hbd.1 hbd.2)
        have HX := Lib.hid (show PB = if nameB [98, 108, 111, 99, 107] n = name then ([98, 108, 111, 99, 107], n, true) else ([], 0, false) by rw [HP.out, ha]; simp [walK, blockK])
        clear QA Q HP ha
        go_wp2_with fail
        refine QN.out.mono ?_
        rintro e w3 ⟨rfl, hb3⟩
        have hB3 := hB2.trans (hb3.mono hB2.size)
        by_cases hz : nameB [98, 108, 111, 99, 107] n = name
        · have HY := Lib.hid (show PB = ([98, 108, 111, 99, 107], n, true) by rw [HX.out, if_pos hz])
          have f1 : (nameB [98, 108, 111, 99, 107] n == name) = true := by simpa using hz
          clear hz HX
          go_wp2_with fail
          go_ret3
          exact ⟨by rw [HY.out]; rfl, hB3⟩
        · have HY := Lib.hid (show PB = ([], 0, false) by rw [HX.out, if_neg hz])
          have f1 : (nameB [98, 108, 111, 99, 107] n == name) = false := by simpa using hz
          clear hz HX
          go_wp2_with fail
          go_ret3
          exact ⟨by rw [HY.out]; rfl, hB3⟩
      · have HY := Lib.hid (show PB = ([], 0, false) by
          rw [HP.out, ha]
          simp only
          rw [if_neg fun h => h.1.elim hk1 hk2])
        have f1 : (K == [119, 97, 108]) = false := by simpa using hk1
        have f2 : (K == [98, 108, 111, 99, 107]) = false := by simpa using hk2
        clear QA Q HP ha hk1 hk2
        go_wp2_with fail
        go_ret3
        exact ⟨by rw [HY.out]; rfl, hB2⟩
end Go.Proofs.YtgagcncmlonciaaGreatDoor
namespace Go.Proofs.YtgagcncmlonciaaGreatDoor
open Go.RowKit
attribute [local go_sem] bs_toList bs_size

set_option maxRecDepth 100000 in
set_option maxHeartbeats 1000000 in
theorem copyCheck_used (b : Nat) (w : World) (h0 : w.cell? ⟨b, 0, none⟩ = some (.pointer (some ⟨b, 0, none⟩))) :
    Calls Tryz.prog 179 #[.pointer (some ⟨b, 0, none⟩)] w fun e w' => e = .returned (.tuple #[]) ∧ w' = w := by
  have ⟨j, hj, _⟩ : ∃ j, Tryz.prog.info? 208 = some j ∧ j.size = 2 := Option.map_eq_some_iff.1 (show (Tryz.prog.info? 208).map (·.size) = some 2 by kernel_rfl)
  go_enter Tryz.func179, Tryz.ntmps179
  go_wp2
  rw [Lib.run_neq_ptr_same w _ Tryz.underlying206 hj]
  go_wp2
  go_end0
  exact ⟨rfl, rfl⟩

set_option maxRecDepth 100000 in
set_option maxHeartbeats 1000000 in
theorem copyCheck_fresh (b : Nat) (w : World) (h0 : w.cell? ⟨b, 0, none⟩ = some (.pointer none)) (hsh : w.shape? b = some (208, 2)) (hfz : w.frozen? ⟨b, 0, none⟩ = false) :
    Calls Tryz.prog 179 #[.pointer (some ⟨b, 0, none⟩)] w fun e w' => e = .returned (.tuple #[]) ∧ w' = w.setCell ⟨b, 0, none⟩ (.pointer (some ⟨b, 0, none⟩)) := by
  have ⟨j, hj, hjs⟩ : ∃ j, Tryz.prog.info? 208 = some j ∧ j.size = 2 := Option.map_eq_some_iff.1 (show (Tryz.prog.info? 208).map (·.size) = some 2 by kernel_rfl)
  go_enter Tryz.func179, Tryz.ntmps179
  go_wp2
  rw [Lib.run_to_unsafe w ⟨b, 0, none⟩ Tryz.underlying206 Tryz.underlying325 hj (by rw [hjs]; decide) hsh (Nat.zero_lt_succ 1)]
  simp only [Result.andThen]
  rw [Oper.upon_value]
  go_wp2
  rw [run_callFunc_extern Tryz.func218 (by kernel_rfl) (by kernel_rfl) (by kernel_rfl) (e := Extern.AbiNoEscape.same) (by kernel_rfl)]
  rw [Lib.run_noEscape]
  simp only [Result.andThen]
  rw [Oper.upon_value]
  go_wp2
  rw [Lib.run_from_unsafe w ⟨b, 0, none⟩ Tryz.underlying325 Tryz.underlying206 hj hsh (by kernel_rfl)]
  simp only [Result.andThen]
  rw [Oper.upon_value]
  go_wp2
  go_end0
  exact ⟨rfl, rfl⟩

theorem copyCheck_any (B b : Nat) (l : List Value) (w : World) (h : Lib.IsBuilderF 208 5 B b l w) :
    Calls Tryz.prog 179 #[.pointer (some ⟨b, 0, none⟩)] w fun e w' => e = .returned (.tuple #[]) ∧ (Lib.BuilderAtF 208 5 B b (.pointer (some ⟨b, 0, none⟩)) l w' ∧ Below B w w') := by
  rcases h with h | h
  · refine (copyCheck_fresh b w h.cell0 h.shape h.frozen0).mono ?_
    rintro e w' ⟨rfl, rfl⟩
    exact ⟨rfl, h.used _, (Below.refl B w).setCell (p := ⟨b, 0, none⟩) h.1 _⟩
  · refine (copyCheck_used b w h.cell0).mono ?_
    rintro e w' ⟨rfl, rfl⟩
    exact ⟨rfl, h, Below.refl B _⟩

set_option maxRecDepth 100000 in
set_option maxHeartbeats 1000000 in
theorem writeString_any (B b : Nat) (l : List Value) (s : ByteArray) (w : World) (h : Lib.IsBuilderF 208 5 B b l w) (hlen : l.length + s.size ≤ 140737488355328) (hBw : B ≤ w.heap.size) :
    Calls Tryz.prog 120 #[.pointer (some ⟨b, 0, none⟩), .string s] w fun e w' => e = .returned (.tuple #[.int .i64 s.size, .nilIface]) ∧ (Lib.IsBuilderF 208 5 B b (l ++ Lib.strCells s) w' ∧ Below B w w') := by
  have ⟨i0, hi, hz0, hz1, hz2⟩ := info_parts (show (Tryz.prog.info? 5).map (fun i => (i.zero, i.size, i.bytes)) = some (some (.int .u8 0), 1, 1) by kernel_rfl)
  have q := Lib.hid (fun w => copyCheck_any B b l w)
  go_enter Tryz.func120, Tryz.ntmps120
  go_wp2_with fail
  refine (q.out _ h).mono ?_
  rintro e w1 ⟨rfl, h1, hb1⟩
  obtain ⟨hB, v, hbk, hown, hne⟩ := h1
  have c0 : w1.cell? ⟨b, 0, none⟩ = some (.pointer (some ⟨b, 0, none⟩)) := by rw [Lib.cell_of_heap hbk]; rfl
  have c1 : w1.cell? ⟨b, 1, none⟩ = some v := by rw [Lib.cell_of_heap hbk]; rfl
  go_wp2_with (at_builtin; refine Lib.wpList_append_own_stringF _ rfl _ _ 93 9 rfl B 5 i0 Tryz.underlying93 Tryz.underlying9 hi hz0 hz1 hz2 _ _ _ rfl hown s rfl ?c3 ?c4 ?c5 ?_)
  case c3 => unfold maxLen; omega
  case c4 => omega
  case c5 => have := hb1.size; omega
  intro v' w2 hown' hgrow _
  have hlt : b < w1.heap.size := by
    rcases Nat.lt_or_ge b w1.heap.size with h' | h'
    · exact h'
    · simp [Array.getElem?_eq_none h'] at hbk
  have hb2 : w2.heap[b]? = some (.cells #[.pointer (some ⟨b, 0, none⟩), v] 208 (0, 0)) := by
    rw [hgrow.block b hlt (fun e => hne e.symm)]
    exact hbk
  have d0 : w2.cell? ⟨b, 0, none⟩ = some (.pointer (some ⟨b, 0, none⟩)) := by rw [Lib.cell_of_heap hb2]; rfl
  have d1 : w2.cell? ⟨b, 1, none⟩ = some v := by rw [Lib.cell_of_heap hb2]; rfl
  have f1 : w2.frozen? ⟨b, 1, none⟩ = false := Lib.frozen_of_heap hb2 1
  obtain ⟨ao, n', cap, rfl⟩ : ∃ ao n' cap, v' = .slice ao n' cap := by
    rcases hown'.2 with ⟨hv, _⟩ | ⟨g, cap, cur, fz, hv, _⟩
    · exact ⟨_, _, _, hv⟩
    · exact ⟨_, _, _, hv⟩
  go_wp2
  go_ret2
  refine ⟨rfl, Or.inr ?_, ?_⟩
  · exact Lib.BuilderAtF.put (T := 208) (e := 5) hB hb2 (bs' := l ++ Lib.strCells s) (by simpa [Lib.strCells_length] using hown') (by decide)
  · exact (hb1.grown hgrow (by have := hb1.size; omega) (fun k hk => (hown.lt k hk).1)).setCell (p := ⟨b, 1, none⟩) hB _

/-- A builder that holds these bytes. -/
def BldAt (B b : Nat) (l : List UInt8) (w : World) : Prop := Lib.IsBuilderF 208 5 B b (Lib.byteCells l) w
theorem BldAt.fresh (w : World) : BldAt w.heap.size w.heap.size [] (w.alloc (.cells #[.pointer none, .slice none 0 0] 208)) := Lib.IsBuilderF.of (Lib.fresh_isBuilder _ _ w)
theorem heap_lt {w : World} {b : Nat} {o : Obj} (h : w.heap[b]? = some o) : b < w.heap.size := (Array.getElem?_eq_some_iff.1 h).1
theorem builderAt_below {B b : Nat} {p : Value} {l : List Value} {w w' : World} (h : Lib.BuilderAtF 208 5 B b p l w) (hb : Below w.heap.size w w') : Lib.BuilderAtF 208 5 B b p l w' := by
  obtain ⟨h1, v, h2, h3, h4⟩ := h
  refine ⟨h1, v, (hb.block b (heap_lt h2)).trans h2, ⟨h3.1, ?_⟩, h4⟩
  rcases h3.2 with h | ⟨g, cap, cur, fz, e1, e2, e3, e4⟩
  · exact .inl h
  · exact .inr ⟨g, cap, cur, fz, e1, e2, (hb.block g (heap_lt e3)).trans e3, e4⟩
theorem BldAt.below {B b : Nat} {l : List UInt8} {w w' : World} (h : BldAt B b l w) (hb : Below w.heap.size w w') : BldAt B b l w' :=
  h.elim (fun h => .inl (builderAt_below h hb)) (fun h => .inr (builderAt_below h hb))
theorem strCells_bs (s : List UInt8) : Lib.strCells (bs s) = Lib.byteCells s := by unfold Lib.strCells Lib.byteCells; rw [bs_data]
theorem write_any (B b : Nat) (l s : List UInt8) (w : World) (h : BldAt B b l w) (hlen : l.length + s.length ≤ 140737488355328) (hBw : B ≤ w.heap.size) :
    Calls Tryz.prog 120 #[.pointer (some ⟨b, 0, none⟩), .string (bs s)] w fun e w' => e = .returned (.tuple #[.int .i64 s.length, .nilIface]) ∧ BldAt B b (l ++ s) w' ∧ Below B w w' := by
  refine (writeString_any B b (Lib.byteCells l) (bs s) w h (by rw [bs_size]; simpa [Lib.byteCells] using hlen) hBw).mono ?_
  rintro e w' ⟨rfl, h1, h2⟩
  refine ⟨by rw [bs_size], ?_, h2⟩
  unfold BldAt
  rw [Lib.byteCells_append, ← strCells_bs s]
  exact h1
end Go.Proofs.YtgagcncmlonciaaGreatDoor
namespace Go.Proofs.YtgagcncmlonciaaGreatDoor
open Go.RowKit

/-- A row with other cells from a place on, where there is room. -/
def rowWith (cur : Array Value) (k : Nat) (news : List Value) : Array Value := if k + news.length ≤ cur.size then (cur.toList.take k ++ news ++ cur.toList.drop (k + news.length)).toArray else cur
theorem rowWith_size (cur : Array Value) (k : Nat) (news : List Value) : (rowWith cur k news).size = cur.size := by
  unfold rowWith
  split
  · simp only [List.size_toArray, List.length_append, List.length_take, List.length_drop, Array.length_toList]
    omega
  · rfl
theorem rowWith_take (cur : Array Value) (k : Nat) (news : List Value) : (rowWith cur k news).toList.take k = cur.toList.take k := by
  unfold rowWith
  split
  · rename_i h
    have : (cur.toList.take k).length = k := by simp; omega
    simp only [List.append_assoc]
    rw [List.take_append_of_le_length (by omega), List.take_of_length_le (by omega)]
  · rfl
theorem rowWith_again (cur : Array Value) (k : Nat) (news : List Value) : rowWith (rowWith cur k news) k news = rowWith cur k news := by
  have hs := rowWith_size cur k news
  by_cases h : k + news.length ≤ cur.size
  · have e : rowWith cur k news = (cur.toList.take k ++ news ++ cur.toList.drop (k + news.length)).toArray := by unfold rowWith; rw [if_pos h]
    have ht := rowWith_take cur k news
    have hd : (rowWith cur k news).toList.drop (k + news.length) = cur.toList.drop (k + news.length) := by
      rw [e]
      have : (cur.toList.take k ++ news).length = k + news.length := by simp; omega
      show (cur.toList.take k ++ news ++ cur.toList.drop (k + news.length)).drop (k + news.length) = _
      rw [List.drop_append_of_le_length (by omega), List.drop_of_length_le (by omega), List.nil_append]
    generalize rowWith cur k news = C at *
    unfold rowWith
    rw [if_pos (by rw [hs]; exact h), ht, hd, e]
  · generalize rowWith cur k news = C at *
    unfold rowWith
    rw [if_neg (by rw [hs]; exact h)]

/-- What a row's block holds behind an append that found room. -/
def appendedTo (w : World) (v : Value) (size n : Nat) (news : List Value) : Option Obj :=
  match v with
  | .slice (some a) _ _ => match w.heap[a.block]? with
    | some (.cells cur e fz) => some (.cells (rowWith cur (n * size) news) e fz)
    | _ => none
  | _ => none

/-- New memory alone; but one row may become what it is to become. -/
def AppR (row : Option Nat) (fin : Option Obj) (a b : World) : Prop := a.grownBy b row ∧ ∀ g, row = some g → b.heap[g]? = a.heap[g]? ∨ b.heap[g]? = fin
instance {row : Option Nat} {fin : Option Obj} : Turns (AppR row fin) :=
  ⟨fun _ => ⟨⟨rfl, rfl, rfl, Nat.le_refl _, fun _ _ _ => rfl⟩, fun _ _ => .inl rfl⟩,
   fun h k => ⟨World.grownBy.trans h.1 k.1, fun g hg => by
     rcases k.2 g hg with e | e
     · rw [e]; exact h.2 g hg
     · exact .inr e⟩,
   fun _ => ⟨⟨rfl, rfl, rfl, Nat.le_refl _, fun _ _ _ => rfl⟩, fun _ _ => .inl rfl⟩⟩

theorem AppR.cell {row : Option Nat} {fin : Option Obj} {w w' : World} {p : Addr} {v : Value} (hR : AppR row fin w w') (h : w.cell? p = some v) (hr : some p.block ≠ row) : w'.cell? p = some v :=
  (World.cell?_of_block (hR.1.block p.block (World.block_lt_of_cell? _ _ h) hr)).trans h
theorem app_cell {row : Option Nat} {fin : Option Obj} {w : World} {p : Addr} {v : Value} (h : w.cell? p = some v) (hr : some p.block ≠ row) : ∀ x : RW (AppR row fin) w, x.w.cell? p = some v := fun x => AppR.cell x.is h hr

/-- A slice of new cells. -/
def NewCells (w0 : World) (m : Nat) (news : List Value) : Held := fun x W => ∃ p c, x = .slice (some ⟨p, 0, none⟩) m c ∧ w0.heap.size ≤ p ∧ ∀ j u, news[j]? = some u → W.cell? ((⟨p, 0, none⟩ : Addr).add j) = some u
theorem add_block (a : Addr) (j : Nat) : (a.add j).block = a.block := by unfold Addr.add; split <;> rfl
theorem newCells_keeps {row : Option Nat} {fin : Option Obj} {w0 : World} {m : Nat} {news : List Value} (hr : ∀ g, row = some g → g < w0.heap.size) : (NewCells w0 m news).keeps (AppR row fin) := by
  rintro x W W' ⟨p, c, rfl, hp, hc⟩ hR
  exact ⟨p, c, rfl, hp, fun j u hu => AppR.cell hR (hc j u hu) fun e => by
    rw [add_block] at e
    have := hr p e.symm
    omega⟩

/-- What an append answers. -/
def AppHeld (w0 : World) (base : Nat) (e : TypeId) (size : Nat) (row : Option Nat) (fin : Option Obj) (n : Nat) (xs : List Value) : Held := fun v' W' =>
  W'.ownsRow base e size v' n xs ∧ ((v'.ownBlock = row ∧ ∀ g, row = some g → W'.heap[g]? = fin) ∨ ∃ k, v'.ownBlock = some k ∧ w0.heap.size ≤ k)

theorem owns_same {w w' : World} {base : Nat} {e : TypeId} {size n : Nat} {v : Value} {xs : List Value} (h : w.ownsRow base e size v n xs) (hk : ∀ g, v.ownBlock = some g → w'.heap[g]? = w.heap[g]?) : w'.ownsRow base e size v n xs := by
  refine ⟨h.1, ?_⟩
  rcases h.2 with h2 | ⟨g, cap, cur, rfl, h3, h4, h5⟩
  · exact .inl h2
  · exact .inr ⟨g, cap, cur, rfl, h3, (hk g rfl).trans h4, h5⟩
theorem owns_lt {w : World} {base : Nat} {e : TypeId} {size n : Nat} {v : Value} {xs : List Value} (h : w.ownsRow base e size v n xs) {k : Nat} (hk : v.ownBlock = some k) : k < w.heap.size := by
  rcases h.2 with ⟨rfl, _⟩ | ⟨g, cap, cur, rfl, _, hg, _⟩
  · cases hk
  · obtain rfl : g = k := Option.some.inj hk
    exact (Array.getElem?_eq_some_iff.1 hg).1

theorem appHeld_keeps {w0 : World} {base : Nat} {e : TypeId} {size : Nat} {row : Option Nat} {fin : Option Obj} {n : Nat} {xs : List Value} (hr : ∀ g, row = some g → g < w0.heap.size) :
    (AppHeld w0 base e size row fin n xs).keeps (AppR row fin) := by
  rintro v W W' ⟨h1, h2⟩ hR
  rcases h2 with ⟨h2, h3⟩ | ⟨k, h2, h3⟩
  · have hs : ∀ g, row = some g → W'.heap[g]? = W.heap[g]? := fun g hg => by
      rcases hR.2 g hg with e | e
      · exact e
      · rw [e, h3 g hg]
    exact ⟨owns_same h1 fun g hg => hs g (h2 ▸ hg), .inl ⟨h2, fun g hg => (hs g hg).trans (h3 g hg)⟩⟩
  · exact ⟨owns_same h1 fun g hg => hR.1.block g (owns_lt h1 hg) fun e => by
      have := hr g e.symm
      rw [h2] at hg
      have := Option.some.inj hg
      omega, .inr ⟨k, h2, h3⟩⟩

section
variable {P : Program}
theorem run_append_app (t ty e : TypeId) (i : TypeInfo) (z : Value) (size bytes : Nat) (ht : P.underlying t = some (.slice e)) (hi : P.info? e = some i) (hz : i.zero = some z) (hsize : i.size = size) (hby : i.bytes = bytes) (hzs : z.cells.size = size) (hsz : 0 < size)
    (base : Nat) (w0 w : World) (v : Value) (n : Nat) (xs : List Value) (hown : w0.ownsRow base e size v n xs) (m c : Nat) (a : Addr) (news : List Value) (hl : news.length = m * size) (hnews : ∀ j u, news[j]? = some u → w.cell? (a.add j) = some u)
    (h1 : ∀ u ∈ news, u.oneCell' = true) (h63 : n + m ≤ maxLen) (hbytes : (n + m) * bytes ≤ 140737488355328) (hbase : base ≤ w0.heap.size) (hR : AppR v.ownBlock (appendedTo w0 v size n news) w0 w) :
    ∃ v' w', (Builtin.append_ #[t, t] ty #[v, .slice (some a) m c]).run P w = .ok v' w' ∧ AppR v.ownBlock (appendedTo w0 v size n news) w w' ∧ AppHeld w0 base e size v.ownBlock (appendedTo w0 v size n news) (n + m) (xs ++ news) v' w' := by
  have hown' : w.ownsRow base e size v n xs := by
    refine ⟨hown.1, ?_⟩
    rcases hown.2 with h2 | ⟨g, cap, cur, rfl, h3, h4, h5, h6, h7, h8⟩
    · exact .inl h2
    · rcases hR.2 g rfl with e' | e'
      · exact .inr ⟨g, cap, cur, rfl, h3, e'.trans h4, h5, h6, h7, h8⟩
      · refine .inr ⟨g, cap, rowWith cur (n * size) news, rfl, h3, e'.trans ?_, h5, h6, by rw [rowWith_size, h7], by rw [rowWith_take, h8]⟩
        unfold appendedTo
        simp only [h4]
  have hge := hR.1.size
  rcases hown'.2 with ⟨rfl, rfl⟩ | ⟨g, cap, cur, rfl, hbg, hg, hnc, hcm, hcs, htake⟩
  · obtain ⟨v', w', hr, h2, h3, h4, h5⟩ := run_append_own_at (P := P) w base t ty e i z size bytes ht hi hz hsize hby hzs hsz _ _ xs hown' a m c news hl hnews h1 h63 hbytes (by omega)
    refine ⟨v', w', hr, ⟨h3, fun g hg => by cases hg⟩, h2, ?_⟩
    rcases h5 with h5 | h5
    · exact .inl ⟨h5, fun g hg => by cases hg⟩
    · exact .inr ⟨_, h5, hge⟩
  · by_cases hroom : n + m ≤ cap
    · have hfit : n * i.size + news.length ≤ cur.size := by rw [hl, hcs, hsize, ← Nat.add_mul]; exact Nat.mul_le_mul_right _ hroom
      have hr := run_append_room (P := P) w t ty e i ht hi g n cap cur hg a m c news (by rw [hsize]; exact hl) hnews h1 hroom hfit
      have hset : (cur.toList.take (n * i.size) ++ news ++ cur.toList.drop (n * i.size + news.length)).toArray = rowWith cur (n * size) news := by
        unfold rowWith
        rw [hsize] at hfit ⊢
        rw [if_pos hfit]
      rw [hset] at hr
      have hnew : (w.setRow g (rowWith cur (n * size) news)).heap[g]? = some (.cells (rowWith cur (n * size) news) e (0, 0)) := setRow_heap w g cur _ e _ hg
      have hfin : (w.setRow g (rowWith cur (n * size) news)).heap[g]? = appendedTo w0 (.slice (some ⟨g, 0, none⟩) n cap) size n news := by
        rw [hnew]
        rcases hR.2 g rfl with e' | e'
        · unfold appendedTo
          simp only [← e', hg]
        · rw [hg] at e'
          unfold appendedTo at e' ⊢
          simp only at e' ⊢
          cases hq : w0.heap[g]? with
          | none => rw [hq] at e'; cases e'
          | some o =>
            rw [hq] at e'
            cases o <;> simp only [Option.some.injEq, reduceCtorEq, Obj.cells.injEq] at e' ⊢
            obtain ⟨rfl, rfl, rfl⟩ := e'
            exact ⟨rowWith_again _ _ _, rfl, rfl⟩
      refine ⟨_, _, hr, ⟨⟨rfl, rfl, rfl, by simp, fun k _ hk => setRow_other w g k _ (fun e => hk (by simp [Value.ownBlock, e]))⟩, fun k hk => ?_⟩, ⟨by rw [List.length_append, hown'.1, hl, Nat.add_mul], .inr ⟨g, cap, _, rfl, hbg, hnew, hroom, hcm, by rw [rowWith_size, hcs], ?_⟩⟩, .inl ⟨rfl, fun k hk => ?_⟩⟩
      · obtain rfl : g = k := Option.some.inj hk
        exact .inr hfin
      · unfold rowWith
        rw [hsize] at hfit
        rw [if_pos hfit, Nat.add_mul, ← hl]
        have : (cur.toList.take (n * size) ++ news).length = n * size + news.length := by simp; omega
        show (cur.toList.take (n * size) ++ news ++ cur.toList.drop (n * size + news.length)).take _ = _
        rw [List.take_append_of_le_length (by omega), List.take_of_length_le (by omega), htake]
      · obtain rfl : g = k := Option.some.inj hk
        exact hfin
    · obtain ⟨v', w', hr, h2, h3, h4, h5⟩ := run_append_own_at (P := P) w base t ty e i z size bytes ht hi hz hsize hby hzs hsz _ _ xs hown' a m c news hl hnews h1 h63 hbytes (by omega)
      have holds : ∀ j u, xs[j]? = some u → w.cell? ((⟨g, 0, none⟩ : Addr).add j) = some u := hown'.cells (g := g) rfl
      have hq := run_append_grow (P := P) w t ty e i z ht hi hz ⟨g, 0, none⟩ n cap xs (by rw [hsize]; exact hown'.1) holds a m c news (by rw [hsize]; exact hl) hnews (by omega) (by simp only [maxLen] at h63; omega) (growslice_fits (by omega) (by rw [hby]; exact hbytes))
      rw [hq] at hr
      obtain ⟨rfl, rfl⟩ := Result.ok.inj hr
      refine ⟨_, _, hq, ⟨h3, fun k hk => ?_⟩, h2, .inr ⟨_, rfl, hge⟩⟩
      obtain rfl : g = k := Option.some.inj hk
      exact .inl (heap_alloc_old w.drew _ (by exact (Array.getElem?_eq_some_iff.1 hg).1))

variable {ops : Array Oper} {w0 : World} {k : Nat} {ds : List Deferred} {F : Act → World → Prop} {rest : List Oper} {H : List (Tmp × Held)} {A : Act} {o : Oper}

/-- The new cells of an append are laid: its slot is hidden. -/
theorem lex_cells {d : Tmp} {row : Option Nat} {fin : Option Obj} {m : Nat} {news : List Value} (hrow : ∀ g, row = some g → g < w0.heap.size) (hw : Region.wanted o (yielded ops A.tmps) = true) (hns : ∀ cs b, o.op ≠ .select cs b) (hl : looksFree ops H o = true) (hd : o.dst = some d) (E : TypeId)
    (hr : ∀ w, (execOp A.eval o).run P w = .ok (.value (.slice (some ⟨w.heap.size, 0, none⟩) m m)) (w.alloc (.cells news.toArray E))) (h : lexAt (AppR row fin) P ops w0 k ds F rest ((d, NewCells w0 m news) :: H) A) :
    lexAt (AppR row fin) P ops w0 k ds F (o :: rest) H A := by
  refine lex_make (newCells_keeps hrow) hw hns hl hd (fun w hR => ⟨_, _, hr w, ?_, w.heap.size, m, rfl, hR.1.size, fun j u hu => ?_⟩) h
  · exact ⟨World.grownBy_alloc w _ _, fun g hg => .inl (heap_alloc_old w _ (Nat.lt_of_lt_of_le (hrow g hg) hR.1.size))⟩
  · have hadd : (⟨w.heap.size, 0, none⟩ : Addr).add j = ⟨w.heap.size, j, none⟩ := by unfold Addr.add; split <;> simp_all
    rw [hadd, World.cell?_alloc_new]
    simpa using hu

/-- An append onto the row, its new cells in a hidden slot: the answer is hidden. -/
theorem lex_app {s x d : Tmp} {t e : TypeId} {i : TypeInfo} {z : Value} {size bytes base n m : Nat} {v : Value} {xs news : List Value} (hgd : o.guard = none) (ho : o.op = .call { callee := .builtin .append, args := #[.tmp s, .tmp x], argTypes := #[t, t] }) (hd : o.dst = some d)
    (ht : P.underlying t = some (.slice e)) (hi : P.info? e = some i) (hz : i.zero = some z) (hsize : i.size = size) (hby : i.bytes = bytes) (hzs : z.cells.size = size) (hsz : 0 < size)
    (hsn : heldBy H s = none) (hs : A.eval (.tmp s) = v) (hx : heldBy H x = some (NewCells w0 m news)) (hown : w0.ownsRow base e size v n xs) (hl : news.length = m * size)
    (h1 : ∀ u ∈ news, u.oneCell' = true) (h63 : n + m ≤ maxLen) (hbytes : (n + m) * bytes ≤ 140737488355328) (hbase : base ≤ w0.heap.size)
    (h : lexAt (AppR v.ownBlock (appendedTo w0 v size n news)) P ops w0 k ds F rest ((d, AppHeld w0 base e size v.ownBlock (appendedTo w0 v size n news) (n + m) (xs ++ news)) :: H) A) :
    lexAt (AppR v.ownBlock (appendedTo w0 v size n news)) P ops w0 k ds F (o :: rest) H A := by
  refine lex_any (appHeld_keeps fun g hg => owns_lt hown hg) (fun c w hR hf => .inr ⟨?_, fun K Q' hK => ?_⟩) hd h
  · unfold Region.wanted
    rw [hgd]
  · have hes := hf s (by simp [Oper.looksAt, ho, hgd, Op.operands, Call.operands])
    have hex := hf x (by simp [Oper.looksAt, ho, hgd, Op.operands, Call.operands])
    unfold fits at hes hex
    rw [hsn] at hes
    rw [hx] at hex
    obtain ⟨p, c', hex, hp, hc⟩ := hex
    simp only at hes
    obtain ⟨v', w', hr, h2, h3⟩ := run_append_app (P := P) t o.type e i z size bytes ht hi hz hsize hby hzs hsz base w0 w v n xs hown m c' ⟨p, 0, none⟩ news hl hc h1 h63 hbytes hbase hR
    unfold Oper.wp execOp
    simp only [ho, resolve, invoke, builtin, Sem.run_bind, Sem.run_pure, Result.andThen_ok, List.map_toArray, List.map_cons, List.map_nil, hes, hs, hex, hr]
    exact hK _ _ h2 h3
end
end Go.Proofs.YtgagcncmlonciaaGreatDoor
namespace Go.Proofs.YtgagcncmlonciaaGreatDoor
open Go.RowKit Go.Maps Go.WideMaps

/-- All blocks but some are as they were. -/
structure Kept (w w' : World) (S : Nat → Prop) : Prop where
  os : w'.os = w.os
  tape : w'.tape = w.tape
  output : w'.output = w.output
  size : w.heap.size ≤ w'.heap.size
  block : ∀ k, k < w.heap.size → ¬ S k → w'.heap[k]? = w.heap[k]?
theorem Kept.of_grown {w w' : World} {row : Option Nat} {S : Nat → Prop} (h : w.grownBy w' row) (hS : ∀ k, row = some k → S k) : Kept w w' S :=
  ⟨h.os, h.tape, h.output, h.size, fun k hk hn => h.block k hk fun e => hn (hS k e.symm)⟩
theorem Kept.trans {a b c : World} {S : Nat → Prop} (h : Kept a b S) (k : Kept b c S) : Kept a c S :=
  ⟨k.os.trans h.os, k.tape.trans h.tape, k.output.trans h.output, Nat.le_trans h.size k.size, fun i hi hn => (k.block i (Nat.lt_of_lt_of_le hi h.size) hn).trans (h.block i hi hn)⟩

theorem ownsRow_kept {w w' : World} {base : Nat} {e : TypeId} {size n : Nat} {v : Value} {xs : List Value} {S : Nat → Prop} (h : w.ownsRow base e size v n xs) (k : Kept w w' S) (hS : ∀ b, v.ownBlock = some b → ¬ S b) : w'.ownsRow base e size v n xs := by
  refine ⟨h.1, ?_⟩
  rcases h.2 with h2 | ⟨g, cap, cur, rfl, h3, h4, h5⟩
  · exact .inl h2
  · refine .inr ⟨g, cap, cur, rfl, h3, ?_, h5⟩
    have hlt : g < w.heap.size := by
      rcases Nat.lt_or_ge g w.heap.size with hlt | hge
      · exact hlt
      · rw [Array.getElem?_eq_none hge] at h4; cases h4
    rw [k.block g hlt (hS g rfl)]
    exact h4

theorem Kept.refl (w : World) (S : Nat → Prop) : Kept w w S := ⟨rfl, rfl, rfl, Nat.le_refl _, fun _ _ _ => rfl⟩
theorem Kept.weaken {a b : World} {S T : Nat → Prop} (h : Kept a b S) (hs : ∀ k, S k → T k) : Kept a b T := ⟨h.os, h.tape, h.output, h.size, fun k hk hn => h.block k hk fun e => hn (hs k e)⟩
/-- New blocks alone. -/
theorem Kept.of_below {a b : World} {S : Nat → Prop} (h : Below a.heap.size a b) : Kept a b S := ⟨h.os, h.tape, h.output, h.size, fun k hk _ => h.block k hk⟩
theorem Kept.alloc (w : World) (o : Obj) (S : Nat → Prop) : Kept w (w.alloc o) S := Kept.of_below ((Below.refl _ w).alloc (Nat.le_refl _) o)
theorem Kept.below {a b : World} {S : Nat → Prop} {B : Nat} (h : Kept a b S) (hB : B ≤ a.heap.size) (hs : ∀ k, S k → B ≤ k) : Below B a b :=
  ⟨h.os, h.tape, h.output, h.size, fun k hk => h.block k (Nat.lt_of_lt_of_le hk hB) fun e => absurd (hs k e) (by omega)⟩

/-- A world turns, and with it what is held: what was not held is as it was; what is held that was not is new. -/
structure Turn (w w' : World) (F F' : Nat → Prop) : Prop where
  kept : Kept w w' F
  grow : ∀ k, F' k → F k ∨ w.heap.size ≤ k
theorem Turn.refl (w : World) (F : Nat → Prop) : Turn w w F F := ⟨Kept.refl w F, fun _ h => .inl h⟩
theorem Turn.trans {a b c : World} {F G H : Nat → Prop} (h : Turn a b F G) (k : Turn b c G H) : Turn a c F H :=
  ⟨⟨k.kept.os.trans h.kept.os, k.kept.tape.trans h.kept.tape, k.kept.output.trans h.kept.output, Nat.le_trans h.kept.size k.kept.size, fun i hi hn =>
    (k.kept.block i (Nat.lt_of_lt_of_le hi h.kept.size) fun e => (h.grow i e).elim hn (by omega)).trans (h.kept.block i hi hn)⟩,
   fun i hi => (k.grow i hi).elim (h.grow i) fun e => .inr (Nat.le_trans h.kept.size e)⟩
theorem Turn.of_kept {a b : World} {F : Nat → Prop} (h : Kept a b F) : Turn a b F F := ⟨h, fun _ h => .inl h⟩
theorem Turn.of_below {a b : World} {F : Nat → Prop} (h : Below a.heap.size a b) : Turn a b F F := Turn.of_kept (Kept.of_below h)

/-- What kind of block it is. -/
def tagOf : Obj → Option TypeId
  | .cells _ t _ => some t
  | _ => none
def tag (w : World) (k : Nat) : Option (Option TypeId) := (w.heap[k]?).map tagOf
theorem tag_blk {w : World} {g : Nat} {t : TypeId} {cs : Array Value} (h : Blk w g t cs) : tag w g = some (some t) := by
  unfold Blk at h
  unfold tag
  rw [h]
  rfl
theorem tag_row {w : World} {base : Nat} {e : TypeId} {size n : Nat} {v : Value} {xs : List Value} (h : w.ownsRow base e size v n xs) {k : Nat} (hk : v.ownBlock = some k) : tag w k = some (some e) := by
  rcases h.2 with ⟨rfl, _⟩ | ⟨g, cap, cur, rfl, _, hg, _⟩
  · cases hk
  · obtain rfl : g = k := Option.some.inj hk
    unfold tag
    rw [hg]
    rfl
theorem tag_lt {w : World} {k : Nat} {x : Option TypeId} (h : tag w k = some x) : k < w.heap.size := by
  rcases Nat.lt_or_ge k w.heap.size with hlt | hge
  · exact hlt
  · unfold tag at h
    rw [Array.getElem?_eq_none hge] at h
    cases h

theorem Blk.keptK {w w' : World} {g : Nat} {t : TypeId} {cs : Array Value} {S : Nat → Prop} (h : Blk w g t cs) (k : Kept w w' S) (hS : ¬ S g) : Blk w' g t cs := (k.block g h.lt hS).trans h

theorem Kept.then_new {a b c : World} {S : Nat → Prop} {k : Nat} (h : Kept a b S) (g : b.grownBy c (some k)) (hk : a.heap.size ≤ k) : Kept a c S :=
  ⟨g.os.trans h.os, g.tape.trans h.tape, g.output.trans h.output, Nat.le_trans h.size g.size, fun i hi hn => (g.block i (Nat.lt_of_lt_of_le hi h.size) (fun e => by have := Option.some.inj e; omega)).trans (h.block i hi hn)⟩
theorem Kept.cell {a b : World} {S : Nat → Prop} (h : Kept a b S) {p : Addr} {v : Value} (hp : a.cell? p = some v) (hS : ¬ S p.block) : b.cell? p = some v :=
  (World.cell?_of_block (h.block p.block (World.block_lt_of_cell? _ _ hp) hS)).trans hp
theorem ownsMap_kept {H : Type} {P : Program} {k : TypeId} {R : Value → Option (DataW H × List MemPlace)} {w w' : World} {b n : Nat} {D : DataW H} {S : Nat → Prop} (h : w.ownsMap P k R b n D) (hk : Kept w w' S) (hS : ¬ S b) : w'.ownsMap P k R b n D := by
  have hlt := World.ownsMap.lt h
  obtain ⟨es, clock, hb, F, hs, hD⟩ := h
  exact ⟨es, clock, (hk.block b hlt hS).trans hb, F, hs, hD⟩
theorem tag_map {H : Type} {P : Program} {k : TypeId} {R : Value → Option (DataW H × List MemPlace)} {w : World} {b n : Nat} {D : DataW H} (h : w.ownsMap P k R b n D) : tag w b = some none := by
  obtain ⟨es, clock, hb, _⟩ := h
  unfold tag
  rw [hb]
  rfl
end Go.Proofs.YtgagcncmlonciaaGreatDoor
namespace Go.Proofs.YtgagcncmlonciaaGreatDoor
open Go.RowKit

section
variable {R : World → World → Prop} {P : Program} {ops : Array Oper} {w0 : World} {n : Nat} {ds : List Deferred} {F : Act → World → Prop} {rest : List Oper} {H : List (Tmp × Held)} {a : Act} {o : Oper}

/-- All slots that an operation looks at but one are open. -/
def looksBut (ops : Array Oper) (H : List (Tmp × Held)) (d : Tmp) (o : Oper) : Bool := (o.looksAt ops).all fun t => t == d || (heldBy H t).isNone
def guardFree (ops : Array Oper) (H : List (Tmp × Held)) (d : Tmp) (o : Oper) : Bool := match o.guard with
  | none => true
  | some (g, _) => match (ops[g]?).bind (·.dst) with
    | none => true
    | some t => t != d && (heldBy H t).isNone
theorem eval_but {d : Tmp} (hz : d < a.tmps.size) (hl : looksBut ops H d o = true) {c : Act} {w : World} (h : ∀ t ∈ o.looksAt ops, fits H a t (c.eval (.tmp t)) w) : ∀ t ∈ o.looksAt ops, c.eval (.tmp t) = (a.put (some d) (c.eval (.tmp d))).eval (.tmp t) := fun t ht => by
  by_cases hd : d = t
  · subst hd
    rw [eval_put_same hz]
  · rw [eval_put_ne hd]
    have h1 := h t ht
    have h2 := List.all_eq_true.1 hl t ht
    unfold fits at h1
    cases he : heldBy H t with
    | none => rw [he] at h1; exact h1
    | some q =>
      rw [he] at h2
      simp only [Option.isNone_some, Bool.or_false, beq_iff_eq] at h2
      exact absurd h2.symm hd
theorem wanted_but {d : Tmp} (hg : guardFree ops H d o = true) {c : Act} {w : World} (h : ∀ t ∈ o.looksAt ops, fits H a t (c.eval (.tmp t)) w) : Region.wanted o (yielded ops c.tmps) = Region.wanted o (yielded ops a.tmps) :=
  wanted_of_fits fun g b u hgd hu => by
    unfold guardFree at hg
    rw [hgd] at hg
    simp only [hu] at hg
    have h1 := h u (guard_looks hgd hu)
    unfold fits at h1
    cases he : heldBy H u with
    | none => rw [he] at h1; exact h1
    | some q => rw [he] at hg; simp at hg
/-- A call, one of its arguments hidden; the answer is known. -/
theorem lex_callx (d : Tmp) {r : Held} {v : Value} (hw : Region.wanted o (yielded ops a.tmps) = true) (hns : ∀ cs b, o.op ≠ .select cs b) (hh : heldBy H d = some r) (hz : d < a.tmps.size) (hm : (o.looksAt ops).contains d = true) (hl : looksBut ops H d o = true) (hg : guardFree ops H d o = true) (hd : writesFree H a o.dst = true)
    (hr : ∀ x w, R w0 w → r x w → ∃ f args, (execOp (a.put (some d) x).eval o).run P w = .ok (.enter f args) w ∧ Calls P f args w fun e w' => e = .returned v ∧ R w w')
    (h : lexAt R P ops w0 n ds F rest H (a.put o.dst v)) : lexAt R P ops w0 n ds F (o :: rest) H a := by
  refine ⟨fun x _ => x = v, fun _ _ _ h _ => h, fun c w hb hs => .inr ⟨by rw [wanted_but hg hs]; exact hw, fun K Q' hK => ?_⟩, by rw [fits_put hd]; exact h⟩
  have h1 := hs d (List.contains_iff_mem.1 hm)
  unfold fits at h1
  rw [hh] at h1
  obtain ⟨f, args, h2, h3⟩ := hr _ _ hb h1
  unfold Oper.wp
  rw [exec_of_fits hns (eval_but hz hl hs), h2]
  exact h3.mono fun e w' ⟨e1, e2⟩ => by subst e1; exact hK _ _ e2 rfl
/-- A call, one of its arguments hidden; the answer is hidden. -/
theorem lex_callxh (d : Tmp) {e : Tmp} {r s : Held} (hk : s.keeps R) (hw : Region.wanted o (yielded ops a.tmps) = true) (hns : ∀ cs b, o.op ≠ .select cs b) (hh : heldBy H d = some r) (hz : d < a.tmps.size) (hm : (o.looksAt ops).contains d = true) (hl : looksBut ops H d o = true) (hg : guardFree ops H d o = true) (hd : o.dst = some e)
    (hr : ∀ x w, R w0 w → r x w → ∃ f args, (execOp (a.put (some d) x).eval o).run P w = .ok (.enter f args) w ∧ Calls P f args w fun e w' => ∃ y, e = .returned y ∧ R w w' ∧ s y w')
    (h : lexAt R P ops w0 n ds F rest ((e, s) :: H) a) : lexAt R P ops w0 n ds F (o :: rest) H a := by
  refine lex_any hk (fun c w hb hs => .inr ⟨by rw [wanted_but hg hs]; exact hw, fun K Q' hK => ?_⟩) hd h
  have h1 := hs d (List.contains_iff_mem.1 hm)
  unfold fits at h1
  rw [hh] at h1
  obtain ⟨f, args, h2, h3⟩ := hr _ _ hb h1
  unfold Oper.wp
  rw [exec_of_fits hns (eval_but hz hl hs), h2]
  exact h3.mono fun e w' ⟨y, e1, e2, e3⟩ => by subst e1; exact hK _ _ e2 e3
end
end Go.Proofs.YtgagcncmlonciaaGreatDoor
namespace Go.Proofs.YtgagcncmlonciaaGreatDoor
open Go.RowKit

/-- What holds of the world behind so many operations of the row; how it may turn. -/
structure Phases where
  ph : Nat → World → Prop
  K : World → World → Prop
  w0 : World
  start : ph 0 w0
  refl : ∀ w, K w w
  trans : ∀ {a b c}, K a b → K b c → K a c
  grow : ∀ {a b}, GrowR a b → K a b
  stay : ∀ {q a b}, ph q a → GrowR a b → ph q b

section
variable (S : Phases) (ch : List Nat) (P : Program) (ops : Array Oper)
def PW : Type := { w : World // ∃ q, S.ph q w }
variable {S} in
def PW.w (x : PW S) : World := x.1
instance : Nonempty (PW S) := ⟨⟨S.w0, 0, S.start⟩⟩

def ServesO (o : Oper) (s : Tmp → Held) (r : Held) : Prop :=
  ∀ c w, (∃ q, S.ph q w) → (∀ t ∈ o.looksAt ops, s t (c.eval (.tmp t)) w) →
    (Region.wanted o (yielded ops c.tmps) = false ∧ r undef w) ∨
    (Region.wanted o (yielded ops c.tmps) = true ∧ ∀ Q Q', (∀ x w', GrowR w w' → r x w' → Q (c.put o.dst x) w') → o.wp P c w Q Q')
def ServesC (q : Nat) (o : Oper) (s : Tmp → Held) (r : Held) : Prop :=
  ∀ c w, S.ph q w → (∀ t ∈ o.looksAt ops, s t (c.eval (.tmp t)) w) →
    Region.wanted o (yielded ops c.tmps) = true ∧ ∀ Q Q', (∀ x w', S.K w w' → S.ph (q + 1) w' → r x w' → Q (c.put o.dst x) w') → o.wp P c w Q Q'
def SvC (k : Nat) (o : Oper) (s : Tmp → Held) (r : Held) : Prop :=
  if ch.contains k then ServesC S P ops (ch.idxOf k) o s r else ServesO S P ops o s r
end

/-- One operation behind another, each served as its place asks. -/
def wpLexS (Sv : Nat → Oper → (Tmp → Held) → Held → Prop) (Kp : Held → Prop) (Fin : (Tmp → Held) → Prop) : Nat → List Oper → (Tmp → Held) → Prop
  | _, [], s => Fin s
  | k, o :: rest, s => ∃ r : Held, Kp r ∧ Sv k o s r ∧ wpLexS Sv Kp Fin (k + 1) rest (fun t => if o.dst = some t then r else s t)

theorem wpLexS_get {Sv : Nat → Oper → (Tmp → Held) → Held → Prop} {Kp : Held → Prop} {Fin : (Tmp → Held) → Prop} {ops : Array Oper} (hT : Kp fun _ _ => True) : ∀ (l : List Oper) (k : Nat) (r : Nat → Held) (s0 : Tmp → Held), (∀ j, j < l.length → l[j]? = ops[k + j]?) →
    (∀ j, j < k → Kp (r j)) → (∀ j o, j < k → ops[j]? = some o → Sv j o (slotsBy ops r s0 j) (r j)) → wpLexS Sv Kp Fin k l (slotsBy ops r s0 k) →
    ∃ r' : Nat → Held, (∀ j, Kp (r' j)) ∧ (∀ j o, j < k + l.length → ops[j]? = some o → Sv j o (slotsBy ops r' s0 j) (r' j)) ∧ Fin (slotsBy ops r' s0 (k + l.length))
  | [], k, r, s0, _, h1, h2, h => by
    have hs : ∀ m, m ≤ k → slotsBy ops (fun j => if j < k then r j else fun _ _ => True) s0 m = slotsBy ops r s0 m := by
      intro m
      induction m with
      | zero => intro _; rfl
      | succ m ih =>
        intro hm
        funext t
        unfold slotsBy
        rw [ih (by omega), if_pos (show m < k by omega)]
    refine ⟨fun j => if j < k then r j else fun _ _ => True, fun j => ?_, fun j o hj ho => ?_, ?_⟩
    · by_cases hj : j < k
      · simp only [hj, if_true]; exact h1 j hj
      · simp only [hj, if_false]; exact hT
    · have hj : j < k := by simpa using hj
      simp only [hj, if_true]
      rw [hs j (by omega)]
      exact h2 j o hj ho
    · rw [List.length_nil, Nat.add_zero, hs k (Nat.le_refl _)]
      exact h
  | o :: rest, k, r, s0, hl, h1, h2, h => by
    obtain ⟨q, hq, hsv, hrest⟩ := h
    have ho : ops[k]? = some o := by simpa using (hl 0 (by simp)).symm
    have hs : ∀ m, m ≤ k → slotsBy ops (fun j => if j = k then q else r j) s0 m = slotsBy ops r s0 m := by
      intro m
      induction m with
      | zero => intro _; rfl
      | succ m ih =>
        intro hm
        funext t
        unfold slotsBy
        rw [ih (by omega), if_neg (show m ≠ k by omega)]
    have := wpLexS_get hT rest (k + 1) (fun j => if j = k then q else r j) s0 (fun j hj => by have := hl (j + 1) (by simp; omega); simpa [Nat.add_assoc, Nat.add_comm 1 j] using this)
      (fun j hj => by
        by_cases hjk : j = k
        · simp only [hjk, if_true]; exact hq
        · simp only [hjk, if_false]; exact h1 j (by omega))
      (fun j p hj hp => by
        rw [hs j (by omega)]
        by_cases hjk : j = k
        · subst hjk
          simp only [if_true]
          rw [hp] at ho; cases ho
          exact hsv
        · simp only [hjk, if_false]; exact h2 j p (by omega) hp)
      (by
        have : slotsBy ops (fun j => if j = k then q else r j) s0 (k + 1) = fun t => if o.dst = some t then q else slotsBy ops r s0 k t := by
          funext t
          show (if (ops[k]?).bind (·.dst) = some t then _ else _) = _
          rw [hs k (Nat.le_refl _), ho]
          simp
        rw [this]
        exact hrest)
    rwa [show k + 1 + rest.length = k + (o :: rest).length by simp; omega] at this

/-- The row: each of its operations waits for the one before it. -/
def chainB (ops : Array Oper) (ch : List Nat) : Bool :=
  decide ch.Nodup && (List.range (ch.length - 1)).all fun i => match ops[ch.getD (i + 1) 0]? with
    | none => false
    | some p => p.after.toList.any fun e => Region.binds .any e && decide (e.on = ch.getD i 0)
theorem chain_of {ops : Array Oper} {ch : List Nat} (h : chainB ops ch = true) : ch.Nodup ∧ ∀ i, i + 1 < ch.length → ∃ p, ops[ch.getD (i + 1) 0]? = some p ∧ ∃ e ∈ p.after, Region.binds .any e = true ∧ e.on = ch.getD i 0 := by
  unfold chainB at h
  rw [Bool.and_eq_true, decide_eq_true_eq, List.all_eq_true] at h
  refine ⟨h.1, fun i hi => ?_⟩
  have := h.2 i (List.mem_range.2 (by omega))
  cases hp : ops[ch.getD (i + 1) 0]? with
  | none => rw [hp] at this; cases this
  | some p =>
    rw [hp] at this
    simp only [List.any_eq_true, Bool.and_eq_true, decide_eq_true_eq] at this
    obtain ⟨e, he, hb⟩ := this
    exact ⟨p, rfl, e, Array.mem_toList_iff.1 he, hb.1, hb.2⟩

/-- How far the row has come. -/
def Phase (S : Phases) (ch : List Nat) (listed : Array Bool) (w : World) : Prop :=
  ∃ q, q ≤ ch.length ∧ (∀ i, i < q → listed.getD (ch.getD i 0) false = true) ∧ (∀ i, q ≤ i → i < ch.length → listed.getD (ch.getD i 0) true = false) ∧ S.ph q w

section
variable {S : Phases} {ch : List Nat} {P : Program} {ops : Array Oper} {n m : Nat} {r : Nat → Held} {a : Act}
theorem turnsK (S : Phases) : Turns S.K := ⟨S.refl, S.trans, fun w => S.grow (Turns.drew (R := GrowR) w)⟩

theorem Phase.other {listed : Array Bool} {w w' : World} {i : Nat} (h : Phase S ch listed w) (hi : i ∉ ch) (hw : GrowR w w') : Phase S ch (listed.setIfInBounds i true) w' := by
  obtain ⟨q, hq, h1, h2, h3⟩ := h
  refine ⟨q, hq, fun j hj => getD_set_true (h1 j hj), fun j hj hl => ?_, S.stay h3 hw⟩
  have hne : i ≠ ch.getD j 0 := fun e => hi (by rw [e, List.getD_eq_getElem?_getD, List.getElem?_eq_getElem hl]; exact List.getElem_mem hl)
  rw [getD_set_ne true hne]
  exact h2 j hj hl
theorem getD_clash {l : Array Bool} {i : Nat} (h1 : l.getD i false = true) (h2 : l.getD i true = false) : False := by
  have := getD_lt h1
  simp [this] at h1 h2
  rw [h1] at h2
  cases h2
theorem Phase.here {listed : Array Bool} {w : World} {i q0 : Nat} (hC : chainB ops ch = true) (h : Phase S ch listed w) (hq0 : ch[q0]? = some i) (hi : i ∈ Region.ready .any ops listed) :
    (∀ i, i < q0 → listed.getD (ch.getD i 0) false = true) ∧ (∀ i, q0 ≤ i → i < ch.length → listed.getD (ch.getD i 0) true = false) ∧ S.ph q0 w := by
  obtain ⟨q, hq, h1, h2, h3⟩ := h
  obtain ⟨hnd, hch⟩ := chain_of hC
  have hl0 : q0 < ch.length := (List.getElem?_eq_some_iff.1 hq0).1
  have hg0 : ch.getD q0 0 = i := by rw [List.getD_eq_getElem?_getD, hq0]; rfl
  obtain ⟨hun, o, ho, hall⟩ := mem_ready.1 hi
  have e : q = q0 := by
    rcases Nat.lt_trichotomy q q0 with hlt | heq | hgt
    · obtain ⟨p, hp, e, he, hb, hon⟩ := hch (q0 - 1) (by omega)
      rw [show q0 - 1 + 1 = q0 by omega, hg0, ho] at hp
      cases hp
      have h4 := hall e he hb
      rw [hon] at h4
      exact (getD_clash h4 (h2 (q0 - 1) (by omega) (by omega))).elim
    · exact heq
    · have h4 := h1 q0 hgt
      rw [hg0] at h4
      exact (getD_clash h4 hun).elim
  subst e
  exact ⟨h1, h2, h3⟩
theorem Phase.next {listed : Array Bool} {w w' : World} {i q0 : Nat} (hC : chainB ops ch = true) (h : Phase S ch listed w) (hq0 : ch[q0]? = some i) (hi : i ∈ Region.ready .any ops listed) (hil : i < listed.size) (hw : S.ph (q0 + 1) w') : Phase S ch (listed.setIfInBounds i true) w' := by
  obtain ⟨h1, h2, h3⟩ := h.here hC hq0 hi
  obtain ⟨hnd, _⟩ := chain_of hC
  have hl0 : q0 < ch.length := (List.getElem?_eq_some_iff.1 hq0).1
  have hg0 : ch.getD q0 0 = i := by rw [List.getD_eq_getElem?_getD, hq0]; rfl
  refine ⟨q0 + 1, by omega, fun j hj => ?_, fun j hj hl => ?_, hw⟩
  · rcases (show j < q0 ∨ j = q0 by omega) with hlt | rfl
    · exact getD_set_true (h1 j hlt)
    · rw [hg0]; exact getD_set_self hil
  · have hne : i ≠ ch.getD j 0 := fun e => by
      have h5 : ch[j]? = ch[q0]? := by
        rw [hq0, e, List.getD_eq_getElem?_getD, List.getElem?_eq_getElem hl]; rfl
      have := (List.getElem?_inj hl hnd).1 h5
      omega
    rw [getD_set_ne true hne]
    exact h2 j (by omega) hl

theorem servC {i : Nat} {o : Oper} {s : Tmp → Held} (h : SvC S ch P ops i o s (r i)) : (i ∉ ch ∧ ServesO S P ops o s (r i)) ∨ ∃ q, ch[q]? = some i ∧ ServesC S P ops q o s (r i) := by
  unfold SvC at h
  by_cases hi : i ∈ ch
  · rw [if_pos (by simpa using hi)] at h
    exact .inr ⟨ch.idxOf i, by rw [List.getElem?_eq_getElem (List.idxOf_lt_length_of_mem hi), List.getElem_idxOf], h⟩
  · rw [if_neg (by simpa using hi)] at h
    exact .inl ⟨hi, h⟩

theorem wpAny_C (hC : chainB ops ch = true) (hF : Formed ops n) (hn : a.tmps.size = n) (hk : ∀ k, (r k).keeps S.K) (hS : ∀ i o, ops[i]? = some o → SvC S ch P ops i o (slotsBy ops r (fun t x _ => x = a.eval (.tmp t)) i) (r i))
    {Q : Exit → Act → World → Prop}
    (hQ : ∀ c w, S.K S.w0 w → S.ph ch.length w → c.tmps.size = a.tmps.size → c.defers = a.defers → (∀ t, slotsBy ops r (fun t x _ => x = a.eval (.tmp t)) ops.size t (c.eval (.tmp t)) w) → Q .normal c w) (hch : ∀ j ∈ ch, j < ops.size) :
    ∀ (fuel : Nat) (listed : Array Bool) (c : Act) (w : World), listed.toList.count false ≤ fuel → Along S.K ops r S.w0 a listed c w → Phase S ch listed w → wpAny P .any ops Q fuel listed c w := by
  haveI := turnsK S
  have hend : ∀ (listed : Array Bool) (c : Act) (w : World), Along S.K ops r S.w0 a listed c w → Phase S ch listed w → Region.ready .any ops listed = [] → Q .normal c w := fun listed c w h hp h0 => by
    have hall := all_listed hF h.size h0
    have hph : S.ph ch.length w := by
      obtain ⟨q, hq, h1, h2, h3⟩ := hp
      have e : q = ch.length := by
        rcases Nat.lt_or_ge q ch.length with hlt | hge
        · exfalso
          have hm : ch.getD q 0 ∈ ch := by rw [List.getD_eq_getElem?_getD, List.getElem?_eq_getElem hlt]; exact List.getElem_mem hlt
          exact getD_clash (hall _ (hch _ hm)) (h2 q (Nat.le_refl _) hlt)
        · omega
      exact e ▸ h3
    refine hQ c w h.below hph h.frame h.defers fun t => ?_
    by_cases hex : ∃ (j : Nat) (p : Oper), ops[j]? = some p ∧ p.dst = some t
    · obtain ⟨j, p, hp, hd⟩ := hex
      rw [slotsBy_of hF (lt_of_some hp) hp hd]
      exact h.done j p t hp (hall j (lt_of_some hp)) hd
    · rw [slotsBy_none fun j hj hd => hex ⟨j, by
        cases hp : ops[j]? with
        | none => rw [hp] at hd; cases hd
        | some p => rw [hp] at hd; exact ⟨p, rfl, hd⟩⟩]
      exact h.rest t fun j p hp _ hd => hex ⟨j, p, hp, hd⟩
  intro fuel
  induction fuel with
  | zero =>
    intro listed c w hc h hp
    have h0 : Region.ready .any ops listed = [] := by
      cases hr : Region.ready .any ops listed with
      | nil => rfl
      | cons i l =>
        have hi : i ∈ Region.ready .any ops listed := by rw [hr]; exact List.mem_cons_self
        obtain ⟨hun, o, ho, _⟩ := mem_ready.1 hi
        have hil : i < listed.size := by rw [h.size]; exact lt_of_some ho
        have := count_set hil hun
        omega
    exact ⟨h0, hend _ _ _ h hp h0⟩
  | succ fuel ih =>
    intro listed c w hc h hp
    refine ⟨hend _ _ _ h hp, fun i hi => ?_⟩
    obtain ⟨hun, o, ho, _⟩ := mem_ready.1 hi
    have hil : i < listed.size := by rw [h.size]; exact lt_of_some ho
    have hcnt := count_set hil hun
    unfold wpOp
    rw [ho]
    simp only []
    rcases servC (hS i o ho) with ⟨hni, hs⟩ | ⟨q, hq, hs⟩
    · have hex : ∃ q, S.ph q w := by obtain ⟨q, _, _, _, h3⟩ := hp; exact ⟨q, h3⟩
      rcases hs c w hex (h.looks hF ho hi) with ⟨h1, h2⟩ | ⟨h1, h2⟩
      · rw [h1]
        exact ih _ _ _ (by omega) (h.step hF hn hk ho hi (S.refl w) h2) (hp.other hni (Turns.refl w))
      · rw [h1]
        exact .inl (h2 _ _ fun x w' hb hr => ih _ _ _ (by omega) (h.step hF hn hk ho hi (S.grow hb) hr) (hp.other hni hb))
    · obtain ⟨h1, h2⟩ := hs c w (hp.here hC hq hi).2.2 (h.looks hF ho hi)
      rw [h1]
      exact .inl (h2 _ _ fun x w' hb hp' hr => ih _ _ _ (by omega) (h.step hF hn hk ho hi hb hr) (hp.next hC hq hi hil hp'))

theorem wpAny_ledC (hC : chainB ops ch = true) (hF : Formed ops n) (hn : a.tmps.size = n) (hk : ∀ k, (r k).keeps S.K) (hsz : ops.size = m + 1) (hl : ∀ j, j < m → ∃ k p, j < k ∧ ops[k]? = some p ∧ ∃ e ∈ p.after, Region.binds .any e = true ∧ e.on = j)
    (hS : ∀ i o, i < m → ops[i]? = some o → SvC S ch P ops i o (slotsBy ops r (fun t x _ => x = a.eval (.tmp t)) i) (r i)) {Q : Exit → Act → World → Prop}
    (hQ : ∀ c w, S.K S.w0 w → S.ph ch.length w → c.tmps.size = a.tmps.size → c.defers = a.defers → (∀ t, slotsBy ops r (fun t x _ => x = a.eval (.tmp t)) m t (c.eval (.tmp t)) w) → wpOp P ops Q m (Q .normal) c w) (hch : ∀ j ∈ ch, j < m) :
    ∀ (fuel : Nat) (listed : Array Bool) (c : Act) (w : World), listed.toList.count false ≤ fuel → Along S.K ops r S.w0 a listed c w → Phase S ch listed w → listed.getD m true = false → wpAny P .any ops Q fuel listed c w := by
  haveI := turnsK S
  have hnot : ∀ (listed : Array Bool) (c : Act) (w : World), Along S.K ops r S.w0 a listed c w → listed.getD m true = false → Region.ready .any ops listed ≠ [] := fun listed c w h hm h0 => by
    have := all_listed hF h.size h0 m (by omega)
    exact getD_clash this hm
  intro fuel
  induction fuel with
  | zero =>
    intro listed c w hc h hp hm
    exfalso
    have hml : m < listed.size := by rw [h.size]; omega
    have := count_set hml hm
    omega
  | succ fuel ih =>
    intro listed c w hc h hp hm
    refine ⟨fun h0 => absurd h0 (hnot _ _ _ h hm), fun i hi => ?_⟩
    obtain ⟨hun, o, ho, _⟩ := mem_ready.1 hi
    have hil : i < listed.size := by rw [h.size]; exact lt_of_some ho
    have hcnt := count_set hil hun
    by_cases him : i = m
    · subst him
      have hall := led_all hsz hl h hi
      have hph : S.ph ch.length w := by
        obtain ⟨q, hq, h1, h2, h3⟩ := hp
        have e : q = ch.length := by
          rcases Nat.lt_or_ge q ch.length with hlt | hge
          · exfalso
            have hm : ch.getD q 0 ∈ ch := by rw [List.getD_eq_getElem?_getD, List.getElem?_eq_getElem hlt]; exact List.getElem_mem hlt
            have hlt2 := hch _ hm
            exact getD_clash (hall (i - 1 - ch.getD q 0) _ (by omega)) (h2 q (Nat.le_refl _) hlt)
          · omega
        exact e ▸ h3
      have hfit : ∀ t, slotsBy ops r (fun t x _ => x = a.eval (.tmp t)) i t (c.eval (.tmp t)) w := fun t => by
        by_cases hex : ∃ (j : Nat) (p : Oper), j < i ∧ ops[j]? = some p ∧ p.dst = some t
        · obtain ⟨j, p, hji, hp, hd⟩ := hex
          rw [slotsBy_of hF hji hp hd]
          exact h.done j p t hp (hall (i - 1 - j) j (by omega)) hd
        · rw [slotsBy_none fun j hj hd => hex ⟨j, by
            cases hp : ops[j]? with
            | none => rw [hp] at hd; cases hd
            | some p => rw [hp] at hd; exact ⟨p, hj, rfl, hd⟩⟩]
          refine h.rest t fun j p hp hj hd => hex ⟨j, p, ?_, hp, hd⟩
          have hjs := lt_of_some hp
          have hne : j ≠ i := fun e => by
            subst e
            exact getD_clash hj hun
          omega
      refine wpOp_mono (fun c' w' hq => ?_) (hQ c w h.below hph h.frame h.defers hfit)
      have hempty : Region.ready .any ops (listed.setIfInBounds i true) = [] := by
        cases hr : Region.ready .any ops (listed.setIfInBounds i true) with
        | nil => rfl
        | cons k l =>
          exfalso
          have hk' : k ∈ Region.ready .any ops (listed.setIfInBounds i true) := by rw [hr]; exact List.mem_cons_self
          obtain ⟨hku, p, hp, _⟩ := mem_ready.1 hk'
          have hks := lt_of_some hp
          have hkl : (listed.setIfInBounds i true).getD k false = true := by
            by_cases hki : k = i
            · subst hki; exact getD_set_self hil
            · exact getD_set_true (hall (i - 1 - k) k (by omega))
          exact getD_clash hkl hku
      cases fuel with
      | zero => exact ⟨hempty, hq⟩
      | succ fuel => exact ⟨fun _ => hq, fun k hk => by rw [hempty] at hk; cases hk⟩
    · have hlt : i < m := by have := lt_of_some ho; omega
      have hm' : (listed.setIfInBounds i true).getD m true = false := by rw [getD_set_ne true him]; exact hm
      unfold wpOp
      rw [ho]
      simp only []
      rcases servC (hS i o hlt ho) with ⟨hni, hs⟩ | ⟨q, hq, hs⟩
      · have hex : ∃ q, S.ph q w := by obtain ⟨q, _, _, _, h3⟩ := hp; exact ⟨q, h3⟩
        rcases hs c w hex (h.looks hF ho hi) with ⟨h1, h2⟩ | ⟨h1, h2⟩
        · rw [h1]
          exact ih _ _ _ (by omega) (h.step hF hn hk ho hi (S.refl w) h2) (hp.other hni (Turns.refl w)) hm'
        · rw [h1]
          exact .inl (h2 _ _ fun x w' hb hr => ih _ _ _ (by omega) (h.step hF hn hk ho hi (S.grow hb) hr) (hp.other hni hb) hm')
      · obtain ⟨h1, h2⟩ := hs c w (hp.here hC hq hi).2.2 (h.looks hF ho hi)
        rw [h1]
        exact .inl (h2 _ _ fun x w' hb hp' hr => ih _ _ _ (by omega) (h.step hF hn hk ho hi hb hr) (hp.next hC hq hi hil hp') hm')
end

/-- The walk at a frame, at an operation's place. -/
def lexAtC (S : Phases) (ch : List Nat) (P : Program) (ops : Array Oper) (n : Nat) (ds : List Deferred) (F : Act → World → Prop) (k : Nat) (l : List Oper) (H : List (Tmp × Held)) (a : Act) : Prop :=
  wpLexS (SvC S ch P ops) (fun r => r.keeps S.K) (fun s => ∀ c w', S.K S.w0 w' → S.ph ch.length w' → c.tmps.size = n → c.defers = ds → (∀ t, s t (c.eval (.tmp t)) w') → F c w') k l (fits H a)

section
variable {P : Program} {id : Nat} {Q : Exit → Act → World → Prop} {a : Act} {w : World} {l : List Oper}
/-- A region with a row. -/
theorem wp_region_C (S : Phases) (ch : List Nat) (hw : S.w0 = w) (hm : P.follows .mixedOrders = true) (hB : formedB l.toArray a.tmps.size = true) (hC : chainB l.toArray ch = true) (hch : ch.all (fun j => decide (j < l.length)) = true)
    (h : lexAtC S ch P l.toArray a.tmps.size a.defers (Q .normal) 0 l [] a) : (Code.region id l.toArray true).wp P Q a w := by
  subst hw
  obtain ⟨r, h1, h2, h3⟩ := wpLexS_get (ops := l.toArray) (Kp := fun r => r.keeps S.K) (fun _ _ _ _ _ => trivial) l 0 (fun _ _ _ => True) (fun t x _ => x = a.eval (.tmp t)) (fun j _ => by simp) (fun j hj => by omega) (fun j _ hj => by omega) h
  refine wp_region_any hm ?_
  have hF := formed_of hB
  have hch' : ∀ j ∈ ch, j < l.toArray.size := fun j hj => by simpa using List.all_eq_true.1 hch j hj
  refine wpAny_C hC hF rfl h1 (fun i o ho => h2 i o (by have := lt_of_some ho; simpa using this) ho) (fun c w' hb hp hs hd ht => h3 c w' hb hp hs hd (by simpa using ht)) hch' _ _ _ _ ?_ ⟨by simp, fun j p hp hj => ?_, fun j p t hp hj => ?_, fun _ _ => rfl, rfl, rfl, S.grow (Turns.drew (R := GrowR) S.w0)⟩
    ⟨0, Nat.zero_le _, fun i hi => by omega, fun i _ hi => ?_, S.stay S.start (Turns.drew (R := GrowR) S.w0)⟩
  · rw [Array.toList_replicate]; exact Nat.le_trans List.count_le_length (by simp)
  · rw [replicate_getD] at hj; cases hj
  · rw [replicate_getD] at hj; cases hj
  · have hm : ch.getD i 0 ∈ ch := by rw [List.getD_eq_getElem?_getD, List.getElem?_eq_getElem hi]; exact List.getElem_mem hi
    have := hch' _ hm
    rw [Array.getD_eq_getD_getElem?, Array.getElem?_replicate, if_pos (by simpa using this)]; rfl

/-- A region with a row, and a last operation that all others lead to. -/
theorem wp_region_ledC (S : Phases) (ch : List Nat) {oL : Oper} (hw : S.w0 = w) (hm : P.follows .mixedOrders = true) (hB : formedB l.toArray a.tmps.size = true) (hL : l.getLast? = some oL) (hD : ledB l.toArray (l.length - 1) = true) (hC : chainB l.toArray ch = true) (hch : ch.all (fun j => decide (j < l.length - 1)) = true)
    (h : lexAtC S ch P l.toArray a.tmps.size a.defers (fun c w' => wpList P l.toArray Q [oL] c w') 0 l.dropLast [] a) : (Code.region id l.toArray true).wp P Q a w := by
  subst hw
  have hF := formed_of hB
  obtain ⟨hsz, hl⟩ := led_of hD
  have hlen : l.length = (l.length - 1) + 1 := by simpa using hsz
  obtain ⟨r, h1, h2, h3⟩ := wpLexS_get (ops := l.toArray) (Kp := fun r => r.keeps S.K) (fun _ _ _ _ _ => trivial) l.dropLast 0 (fun _ _ _ => True) (fun t x _ => x = a.eval (.tmp t)) (fun j hj => by
    rw [List.length_dropLast] at hj
    rw [List.getElem?_dropLast, Nat.zero_add]; simp [hj]) (fun j hj => by omega) (fun j _ hj => by omega) h
  rw [List.length_dropLast, Nat.zero_add] at h2 h3
  refine wp_region_any hm ?_
  have hlast : l.toArray[l.length - 1]? = some oL := by rw [← hL, List.getLast?_eq_getElem?]; simp
  have hch' : ∀ j ∈ ch, j < l.length - 1 := fun j hj => by simpa using List.all_eq_true.1 hch j hj
  refine wpAny_ledC hC hF rfl h1 hsz hl h2 (fun c w' hb hp hs hd ht => ?_) hch' _ _ _ _ ?_ ⟨by simp, fun j p hp hj => ?_, fun j p t hp hj => ?_, fun _ _ => rfl, rfl, rfl, S.grow (Turns.drew (R := GrowR) S.w0)⟩
    ⟨0, Nat.zero_le _, fun i hi => by omega, fun i _ hi => ?_, S.stay S.start (Turns.drew (R := GrowR) S.w0)⟩ ?_
  · have := h3 c w' hb hp hs hd ht
    unfold wpOp
    rw [hlast]
    exact this
  · rw [Array.toList_replicate]; exact Nat.le_trans List.count_le_length (by simp)
  · rw [replicate_getD] at hj; cases hj
  · rw [replicate_getD] at hj; cases hj
  · have hm : ch.getD i 0 ∈ ch := by rw [List.getD_eq_getElem?_getD, List.getElem?_eq_getElem hi]; exact List.getElem_mem hi
    have := hch' _ hm
    rw [Array.getD_eq_getD_getElem?, Array.getElem?_replicate, if_pos (by rw [List.size_toArray]; omega)]; rfl
  · rw [Array.getD_eq_getD_getElem?, Array.getElem?_replicate, if_pos (by rw [List.size_toArray]; omega)]; rfl
end

section
variable {S : Phases} {ch : List Nat} {P : Program} {ops : Array Oper} {n k : Nat} {ds : List Deferred} {F : Act → World → Prop} {rest : List Oper} {H : List (Tmp × Held)} {a : Act} {o : Oper}
theorem lexc_nil (h1 : a.tmps.size = n) (h2 : a.defers = ds) (h0 : apartB H = true) (h : ∀ w', S.K S.w0 w' → S.ph ch.length w' → hideAll H a w' (fun c => F c w')) : lexAtC S ch P ops n ds F k [] H a := by
  intro c w' hb hp hs hd ht
  exact hideAll_use H a w' _ h0 (h w' hb hp) c (hs.trans h1.symm) (hd.trans h2.symm) ht
theorem fits_hide {d : Tmp} {r : Held} (hd : o.dst = some d) : (fun t => if o.dst = some t then r else fits H a t) = fits ((d, r) :: H) a := by
  funext t
  rw [hd]
  unfold fits
  rw [show heldBy ((d, r) :: H) t = if d = t then some r else heldBy H t from rfl]
  by_cases hdt : d = t
  · simp [hdt]
  · simp [hdt]
theorem svO {r : Held} {s : Tmp → Held} (hi : ch.contains k = false) (h : ServesO S P ops o s r) : SvC S ch P ops k o s r := by
  unfold SvC
  rw [if_neg (by rw [hi]; simp)]
  exact h
theorem svQ {q : Nat} {r : Held} {s : Tmp → Held} (hi : ch.contains k = true) (hq : ch.idxOf k = q) (h : ServesC S P ops q o s r) : SvC S ch P ops k o s r := by
  unfold SvC
  rw [if_pos hi, hq]
  exact h
theorem lexc_skip (hi : ch.contains k = false) (hw : Region.wanted o (yielded ops a.tmps) = false) (hl : looksFree ops H o = true) (hd : writesFree H a o.dst = true) (h : lexAtC S ch P ops n ds F (k + 1) rest H (a.put o.dst undef)) : lexAtC S ch P ops n ds F k (o :: rest) H a := by
  refine ⟨fun x _ => x = undef, fun _ _ _ h _ => h, svO hi fun c w hb hs => .inl ⟨?_, rfl⟩, ?_⟩
  · rw [wanted_of_fits fun g b t hg ht => eval_of_fits hl hs t (guard_looks hg ht)]; exact hw
  · rw [fits_put hd]; exact h
theorem lexc_plain (hi : ch.contains k = false) (hw : Region.wanted o (yielded ops a.tmps) = true) (hp : plainOp o.op = true) (hl : looksFree ops H o = true) (hd : writesFree H a o.dst = true)
    (h : o.quiet P a (fun w' => ∃ x : PW S, w' = x.w) (fun a' => lexAtC S ch P ops n ds F (k + 1) rest H a')) : lexAtC S ch P ops n ds F k (o :: rest) H a := by
  obtain ⟨v, h1, h2⟩ := h
  refine ⟨fun x _ => x = v, fun _ _ _ h _ => h, svO hi fun c w hb hs => .inr ?_, by rw [fits_put hd]; exact h2⟩
  have he := eval_of_fits hl hs
  refine ⟨by rw [wanted_of_fits fun g b t hg ht => he t (guard_looks hg ht)]; exact hw, fun K Q' hK => ?_⟩
  have h3 := h1 w ⟨⟨w, hb⟩, rfl⟩
  have hne : ∀ w' f args, (execOp a.eval o).run P w ≠ .ok (.enter f args) w' := fun w' f args => plain_not_enter hp a.eval w w' f args
  unfold Oper.quietAt at h3
  unfold Oper.wp
  rw [exec_of_fits (fun cs b e => by rw [e] at hp; cases hp) he]
  generalize (execOp a.eval o).run P w = res at *
  cases res with
  | ok m w' =>
    cases m <;> simp only [Oper.quietUpon] at h3 <;> simp only [Oper.upon]
    case value u =>
      obtain ⟨rfl, rfl⟩ := h3
      exact hK _ _ (Turns.refl _) rfl
    case skip =>
      obtain ⟨rfl, rfl⟩ := h3
      exact hK _ _ (Turns.refl _) rfl
    case enter f args => exact absurd rfl (hne _ _ _)
  | halt x w' => simp only [Oper.quietUpon] at h3
theorem lexc_one (hi : ch.contains k = false) (hp : plainOp o.op = true) (hl : looksFree ops H o = true) (hd : writesFree H a o.dst = true)
    (h : ∀ K : Act → Prop, (∀ a', lexAtC S ch P ops n ds F (k + 1) rest H a' → K a') → wpQuiet P ops (fun w' => ∃ x : PW S, w' = x.w) K [o] a) : lexAtC S ch P ops n ds F k (o :: rest) H a := by
  have h' := h _ fun _ h => h
  unfold wpQuiet at h'
  by_cases hw : Region.wanted o (yielded ops a.tmps) = true
  · rw [if_pos hw] at h'; exact lexc_plain hi hw hp hl hd h'
  · rw [if_neg hw] at h'; exact lexc_skip hi (by simpa using hw) hl hd h'
theorem lexc_none (hi : ch.contains k = false) (hw : Region.wanted o (yielded ops a.tmps) = false) (hl : looksFree ops H o = true) (hd : writesFree H a o.dst = true)
    (h : ∀ K : Act → Prop, (∀ a', lexAtC S ch P ops n ds F (k + 1) rest H a' → K a') → wpQuiet P ops (fun w' => ∃ x : PW S, w' = x.w) K [o] a) : lexAtC S ch P ops n ds F k (o :: rest) H a := by
  have h' := h _ fun _ h => h
  unfold wpQuiet at h'
  rw [if_neg (by simp [hw])] at h'
  exact lexc_skip hi hw hl hd h'
/-- A value is laid into its slot: by the same step. -/
theorem lexc_put {dst : Option Tmp} {v : Value} {type : TypeId} {pos : String}
    (h : ∀ K : Act → Prop, (∀ a', lexAtC S ch P ops n ds F k rest H a' → K a') → wpQuiet P ops (fun w' => ∃ x : PW S, w' = x.w) K [⟨dst, .move (.const v), type, pos, #[], none⟩] a) : lexAtC S ch P ops n ds F k rest H (a.put dst v) := by
  have h' := h _ fun _ h => h
  unfold wpQuiet at h'
  rw [if_pos (by rfl)] at h'
  obtain ⟨u, h1, h2⟩ := h'
  have h3 := h1 S.w0 ⟨⟨S.w0, 0, S.start⟩, rfl⟩
  obtain rfl : u = v := by
    have : Oper.quietUpon P (fun w' => ∃ x : PW S, w' = x.w) S.w0 u (.ok (.value v) S.w0) := h3
    exact this.2.symm
  exact h2
theorem lexc_val {v : Value} (hi : ch.contains k = false) (hw : Region.wanted o (yielded ops a.tmps) = true) (hns : ∀ cs b, o.op ≠ .select cs b) (hl : looksFree ops H o = true) (hd : writesFree H a o.dst = true)
    (hr : ∀ w, (∃ q, S.ph q w) → (execOp a.eval o).run P w = .ok (.value v) w) (h : lexAtC S ch P ops n ds F (k + 1) rest H (a.put o.dst v)) : lexAtC S ch P ops n ds F k (o :: rest) H a := by
  refine ⟨fun x _ => x = v, fun _ _ _ h _ => h, svO hi fun c w hb hs => .inr ?_, by rw [fits_put hd]; exact h⟩
  have he := eval_of_fits hl hs
  refine ⟨by rw [wanted_of_fits fun g b t hg ht => he t (guard_looks hg ht)]; exact hw, fun K Q' hK => ?_⟩
  unfold Oper.wp
  rw [exec_of_fits hns he, hr w hb]
  exact hK _ _ (Turns.refl _) rfl
/-- An operation that makes memory: its slot is hidden. -/
theorem lexc_make {d : Tmp} {r : Held} (hi : ch.contains k = false) (hk : r.keeps S.K) (hw : Region.wanted o (yielded ops a.tmps) = true) (hns : ∀ cs b, o.op ≠ .select cs b) (hl : looksFree ops H o = true) (hd : o.dst = some d)
    (hr : ∀ w, (∃ q, S.ph q w) → ∃ x w', (execOp a.eval o).run P w = .ok (.value x) w' ∧ GrowR w w' ∧ r x w') (h : lexAtC S ch P ops n ds F (k + 1) rest ((d, r) :: H) a) : lexAtC S ch P ops n ds F k (o :: rest) H a := by
  refine ⟨r, hk, svO hi fun c w hb hs => .inr ?_, by rw [fits_hide hd]; exact h⟩
  have he := eval_of_fits hl hs
  refine ⟨by rw [wanted_of_fits fun g b t hg ht => he t (guard_looks hg ht)]; exact hw, fun K Q' hK => ?_⟩
  obtain ⟨x, w', h1, h2, h3⟩ := hr w hb
  unfold Oper.wp
  rw [exec_of_fits hns he, h1]
  exact hK _ _ h2 h3
/-- A call that makes memory alone. -/
theorem lexc_call {f : FuncId} {args : Array Value} {v : Value} (hi : ch.contains k = false) (hw : Region.wanted o (yielded ops a.tmps) = true) (hns : ∀ cs b, o.op ≠ .select cs b) (hl : looksFree ops H o = true) (hd : writesFree H a o.dst = true)
    (hr : ∀ w, (execOp a.eval o).run P w = .ok (.enter f args) w) (hc : ∀ w, (∃ q, S.ph q w) → Calls P f args w fun e w' => e = .returned v ∧ GrowR w w')
    (h : lexAtC S ch P ops n ds F (k + 1) rest H (a.put o.dst v)) : lexAtC S ch P ops n ds F k (o :: rest) H a := by
  refine ⟨fun x _ => x = v, fun _ _ _ h _ => h, svO hi fun c w hb hs => .inr ?_, by rw [fits_put hd]; exact h⟩
  have he := eval_of_fits hl hs
  refine ⟨by rw [wanted_of_fits fun g b t hg ht => he t (guard_looks hg ht)]; exact hw, fun K Q' hK => ?_⟩
  unfold Oper.wp
  rw [exec_of_fits hns he, hr]
  exact (hc w hb).mono fun e w' ⟨h1, h2⟩ => by subst h1; exact hK _ _ h2 rfl
/-- A call of the row. -/
theorem lexc_row (q : Nat) {f : FuncId} {args : Array Value} {v : Value} (hi : ch.contains k = true) (hq : ch.idxOf k = q) (hw : Region.wanted o (yielded ops a.tmps) = true) (hns : ∀ cs b, o.op ≠ .select cs b) (hl : looksFree ops H o = true) (hd : writesFree H a o.dst = true)
    (hr : ∀ w, (execOp a.eval o).run P w = .ok (.enter f args) w) (hc : ∀ w, S.ph q w → Calls P f args w fun e w' => e = .returned v ∧ S.K w w' ∧ S.ph (q + 1) w')
    (h : lexAtC S ch P ops n ds F (k + 1) rest H (a.put o.dst v)) : lexAtC S ch P ops n ds F k (o :: rest) H a := by
  refine ⟨fun x _ => x = v, fun _ _ _ h _ => h, svQ hi hq fun c w hb hs => ?_, by rw [fits_put hd]; exact h⟩
  have he := eval_of_fits hl hs
  refine ⟨by rw [wanted_of_fits fun g b t hg ht => he t (guard_looks hg ht)]; exact hw, fun K Q' hK => ?_⟩
  unfold Oper.wp
  rw [exec_of_fits hns he, hr]
  exact (hc w hb).mono fun e w' ⟨h1, h2, h3⟩ => by subst h1; exact hK _ _ h2 h3 rfl
/-- Any operation of the row, by a proof of its own; its slot is hidden. -/
theorem lexc_rowh (q : Nat) {d : Tmp} {r : Held} (hi : ch.contains k = true) (hq : ch.idxOf k = q) (hk : r.keeps S.K) (hs : ServesC S P ops q o (fits H a) r) (hd : o.dst = some d) (h : lexAtC S ch P ops n ds F (k + 1) rest ((d, r) :: H) a) : lexAtC S ch P ops n ds F k (o :: rest) H a :=
  ⟨r, hk, svQ hi hq hs, by rw [fits_hide hd]; exact h⟩
/-- The steps, their plain premises found by themselves. -/
theorem lc1 (h : ∀ K : Act → Prop, (∀ a', lexAtC S ch P ops n ds F (k + 1) rest H a' → K a') → wpQuiet P ops (fun w' => ∃ x : PW S, w' = x.w) K [o] a) (hi : ch.contains k = false := by kernel_rfl) (hp : plainOp o.op = true := by kernel_rfl) (hl : looksFree ops H o = true := by kernel_rfl) (hd : writesFree H a o.dst = true := by kernel_rfl) : lexAtC S ch P ops n ds F k (o :: rest) H a := lexc_one hi hp hl hd h
theorem lc0 (h : ∀ K : Act → Prop, (∀ a', lexAtC S ch P ops n ds F (k + 1) rest H a' → K a') → wpQuiet P ops (fun w' => ∃ x : PW S, w' = x.w) K [o] a) (hi : ch.contains k = false := by kernel_rfl) (hw : Region.wanted o (yielded ops a.tmps) = false := by kernel_rfl) (hl : looksFree ops H o = true := by kernel_rfl) (hd : writesFree H a o.dst = true := by kernel_rfl) : lexAtC S ch P ops n ds F k (o :: rest) H a := lexc_none hi hw hl hd h
theorem lcn (h : ∀ w', S.K S.w0 w' → S.ph ch.length w' → hideAll H a w' (fun c => F c w')) (h1 : a.tmps.size = n := by kernel_rfl) (h2 : a.defers = ds := by kernel_rfl) (h0 : apartB H = true := by kernel_rfl) : lexAtC S ch P ops n ds F k [] H a := lexc_nil h1 h2 h0 h
theorem lcv {v : Value} (hr : ∀ w, (∃ q, S.ph q w) → (execOp a.eval o).run P w = .ok (.value v) w) (h : ∀ K : Act → Prop, (∀ a', lexAtC S ch P ops n ds F (k + 1) rest H a' → K a') → wpQuiet P ops (fun w' => ∃ x : PW S, w' = x.w) K [⟨o.dst, .move (.const v), 0, "", #[], none⟩] a)
    (hi : ch.contains k = false := by kernel_rfl) (hw : Region.wanted o (yielded ops a.tmps) = true := by kernel_rfl) (hns : ∀ cs b, o.op ≠ .select cs b := by intro _ _ h; cases h) (hl : looksFree ops H o = true := by kernel_rfl) (hd : writesFree H a o.dst = true := by kernel_rfl) : lexAtC S ch P ops n ds F k (o :: rest) H a := lexc_val hi hw hns hl hd hr (lexc_put h)
theorem lcc {f : FuncId} {args : Array Value} {v : Value} (hc : ∀ w, (∃ q, S.ph q w) → Calls P f args w fun e w' => e = .returned v ∧ GrowR w w') (h : ∀ K : Act → Prop, (∀ a', lexAtC S ch P ops n ds F (k + 1) rest H a' → K a') → wpQuiet P ops (fun w' => ∃ x : PW S, w' = x.w) K [⟨o.dst, .move (.const v), 0, "", #[], none⟩] a)
    (hi : ch.contains k = false := by kernel_rfl) (hw : Region.wanted o (yielded ops a.tmps) = true := by kernel_rfl) (hns : ∀ cs b, o.op ≠ .select cs b := by intro _ _ h; cases h) (hl : looksFree ops H o = true := by kernel_rfl) (hd : writesFree H a o.dst = true := by kernel_rfl) (hr : ∀ w, (execOp a.eval o).run P w = .ok (.enter f args) w := by intro _; go_simp) : lexAtC S ch P ops n ds F k (o :: rest) H a :=
  lexc_call hi hw hns hl hd hr hc (lexc_put h)
theorem lcr (q : Nat) {f : FuncId} {args : Array Value} {v : Value} (hc : ∀ w, S.ph q w → Calls P f args w fun e w' => e = .returned v ∧ S.K w w' ∧ S.ph (q + 1) w') (h : ∀ K : Act → Prop, (∀ a', lexAtC S ch P ops n ds F (k + 1) rest H a' → K a') → wpQuiet P ops (fun w' => ∃ x : PW S, w' = x.w) K [⟨o.dst, .move (.const v), 0, "", #[], none⟩] a)
    (hi : ch.contains k = true := by kernel_rfl) (hq : ch.idxOf k = q := by kernel_rfl) (hw : Region.wanted o (yielded ops a.tmps) = true := by kernel_rfl) (hns : ∀ cs b, o.op ≠ .select cs b := by intro _ _ h; cases h) (hl : looksFree ops H o = true := by kernel_rfl) (hd : writesFree H a o.dst = true := by kernel_rfl) (hr : ∀ w, (execOp a.eval o).run P w = .ok (.enter f args) w := by intro _; go_simp) : lexAtC S ch P ops n ds F k (o :: rest) H a :=
  lexc_row q hi hq hw hns hl hd hr hc (lexc_put h)
end
end Go.Proofs.YtgagcncmlonciaaGreatDoor
namespace Go.Proofs.YtgagcncmlonciaaGreatDoor
open Go.RowKit

section
variable {S : Phases} {ch : List Nat} {P : Program} {ops : Array Oper} {n k : Nat} {ds : List Deferred} {F : Act → World → Prop} {rest : List Oper} {H : List (Tmp × Held)} {a : Act} {o : Oper}
/-- An operation that only reckons, of a hidden slot: its value is known. -/
theorem lexc_valx (d : Tmp) {r : Held} {v : Value} (hi : ch.contains k = false) (hw : Region.wanted o (yielded ops a.tmps) = true) (hns : ∀ cs b, o.op ≠ .select cs b) (hh : heldBy H d = some r) (hz : d < a.tmps.size) (hm : (o.looksAt ops).contains d = true) (hl : looksBut ops H d o = true) (hg : guardFree ops H d o = true) (hd : writesFree H a o.dst = true)
    (hr : ∀ x w, (∃ q, S.ph q w) → r x w → (execOp (a.put (some d) x).eval o).run P w = .ok (.value v) w)
    (h : lexAtC S ch P ops n ds F (k + 1) rest H (a.put o.dst v)) : lexAtC S ch P ops n ds F k (o :: rest) H a := by
  refine ⟨fun x _ => x = v, fun _ _ _ h _ => h, svO hi fun c w hb hs => .inr ⟨by rw [wanted_but hg hs]; exact hw, fun K Q' hK => ?_⟩, by rw [fits_put hd]; exact h⟩
  have h1 := hs d (List.contains_iff_mem.1 hm)
  unfold fits at h1
  rw [hh] at h1
  unfold Oper.wp
  rw [exec_of_fits hns (eval_but hz hl hs), hr _ _ hb h1]
  exact hK _ _ (Turns.refl _) rfl
end
end Go.Proofs.YtgagcncmlonciaaGreatDoor
