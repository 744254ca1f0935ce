/- A region that draws its order: one walk in the order of its text, over any class of turns of the world. Each slot bears a relation, so an operation may make new memory whose place depends on the order. The last operation, to which all others lead, may turn the world as it likes. -/
import Derived.WalkKit
import Derived.BigQuiet
namespace Go.Proofs.YtgehgjalkponfaaGreatDoor
open Go.RowKit

/-- How a world may turn while the region runs: a class of turns that holds none, and two behind one another, and a draw. -/
class Turns (R : World → World → Prop) : Prop where
  refl : ∀ w, R w w
  trans : ∀ {a b c}, R a b → R b c → R a c
  drew : ∀ w : World, R w { w with drawn := w.drawn + 1 }

/-- The worlds that w may have turned to. -/
def RW (R : World → World → Prop) (w : World) : Type := { w' : World // R w w' }
def RW.w {R : World → World → Prop} {w : World} (x : RW R w) : World := x.1
theorem RW.is {R : World → World → Prop} {w : World} (x : RW R w) : R w x.w := x.2
instance {R : World → World → Prop} [Turns R] {w : World} : Nonempty (RW R w) := ⟨⟨w, Turns.refl w⟩⟩

/-- What a slot may hold, in a world. -/
abbrev Held := Value → World → Prop
def Held.keeps (R : World → World → Prop) (r : Held) : Prop := ∀ x w w', r x w → R w w' → r x w'

/-- An operation, seen from any frame whose slots hold what they should. -/
def Serves (R : World → World → Prop) (P : Program) (ops : Array Oper) (w0 : World) (o : Oper) (s : Tmp → Held) (r : Held) : Prop :=
  ∀ c w, R w0 w → (∀ t ∈ o.looksAt ops, s t (c.eval (.tmp t)) w) →
    (Region.wanted o (yielded ops c.tmps) = false ∧ r undef w) ∨
    (Region.wanted o (yielded ops c.tmps) = true ∧ ∀ Q Q', (∀ x w', R w w' → r x w' → Q (c.put o.dst x) w') → o.wp P c w Q Q')

def slotsBy (ops : Array Oper) (r : Nat → Held) (s : Tmp → Held) : Nat → Tmp → Held
  | 0 => s
  | k + 1 => fun t => if (ops[k]?).bind (·.dst) = some t then r k else slotsBy ops r s k t

/-- The region's form: each slot is written once; what is looked at is written by an operation that is waited for, or that waits. -/
def Formed (ops : Array Oper) (n : Nat) : Prop :=
  ∀ i o, ops[i]? = some o → (∀ e ∈ o.after, Region.binds .any e = true → e.on < i) ∧ (∀ t, o.dst = some t → t < n) ∧
    ∀ j p t, ops[j]? = some p → j ≠ i → p.dst = some t → o.dst ≠ some t ∧ (t ∈ o.looksAt ops →
      (j < i ∧ ∃ e ∈ o.after, Region.binds .any e = true ∧ e.on = j) ∨ (i < j ∧ ∃ e ∈ p.after, Region.binds .any e = true ∧ e.on = i))

def formedB (ops : Array Oper) (n : Nat) : Bool :=
  (List.range ops.size).all fun i => match ops[i]? with
    | none => true
    | some o => o.after.toList.all (fun e => !Region.binds .any e || decide (e.on < i)) && (match o.dst with | none => true | some t => decide (t < n)) &&
      (List.range ops.size).all fun j => decide (j = i) || match ops[j]? with
        | none => true
        | some p => match p.dst with
          | none => true
          | some t => decide (o.dst ≠ some t) && (!(o.looksAt ops).contains t ||
              (decide (j < i) && o.after.toList.any fun e => Region.binds .any e && decide (e.on = j)) || (decide (i < j) && p.after.toList.any fun e => Region.binds .any e && decide (e.on = i)))

theorem lt_of_some {ops : Array Oper} {i : Nat} {o : Oper} (h : ops[i]? = some o) : i < ops.size := by
  rcases Nat.lt_or_ge i ops.size with hlt | hge
  · exact hlt
  · rw [Array.getElem?_eq_none hge] at h; cases h

theorem formed_of {ops : Array Oper} {n : Nat} (h : formedB ops n = true) : Formed ops n := by
  intro i o ho
  unfold formedB at h
  rw [List.all_eq_true] at h
  have hi := h i (List.mem_range.2 (lt_of_some ho))
  rw [ho] at hi
  simp only [Bool.and_eq_true] at hi
  obtain ⟨⟨h1, h2⟩, h3⟩ := hi
  refine ⟨fun e he hb => ?_, fun t ht => ?_, fun j p t hp hne ht => ?_⟩
  · rw [List.all_eq_true] at h1
    have := h1 e (Array.mem_toList_iff.2 he)
    rw [hb] at this
    simpa using this
  · rw [ht] at h2
    simpa using h2
  · rw [List.all_eq_true] at h3
    have := h3 j (List.mem_range.2 (lt_of_some hp))
    rw [hp] at this
    simp only [ht, hne, decide_false, Bool.false_or, Bool.and_eq_true, Bool.or_eq_true, decide_eq_true_eq] at this
    obtain ⟨k1, k2⟩ := this
    refine ⟨k1, fun hm => ?_⟩
    rcases k2 with (k2 | k2) | k2
    · have : (o.looksAt ops).contains t = true := List.contains_iff_mem.2 hm
      rw [this] at k2
      cases k2
    · obtain ⟨k3, k4⟩ := k2
      rw [List.any_eq_true] at k4
      obtain ⟨e, he, hb⟩ := k4
      simp only [Bool.and_eq_true, decide_eq_true_eq] at hb
      exact .inl ⟨k3, e, Array.mem_toList_iff.1 he, hb.1, hb.2⟩
    · obtain ⟨k3, k4⟩ := k2
      rw [List.any_eq_true] at k4
      obtain ⟨e, he, hb⟩ := k4
      simp only [Bool.and_eq_true, decide_eq_true_eq] at hb
      exact .inr ⟨k3, e, Array.mem_toList_iff.1 he, hb.1, hb.2⟩

section
variable {R : World → World → Prop} {P : Program} {ops : Array Oper} {n : Nat} {r : Nat → Held} {s : Tmp → Held} {w0 : World} {a : Act}

theorem slotsBy_of (hF : Formed ops n) {k j : Nat} {p : Oper} {t : Tmp} (hj : j < k) (hp : ops[j]? = some p) (ht : p.dst = some t) : slotsBy ops r s k t = r j := by
  induction k with
  | zero => omega
  | succ k ih =>
    unfold slotsBy
    by_cases hjk : j = k
    · subst hjk; rw [hp]; simp [ht]
    · have hlt : j < k := by omega
      rw [if_neg, ih hlt]
      intro h
      cases hq : ops[k]? with
      | none => rw [hq] at h; cases h
      | some q =>
        rw [hq] at h
        exact ((hF j p hp).2.2 k q t hq (by omega) h).1 ht

theorem slotsBy_none {k : Nat} {t : Tmp} (h : ∀ j, j < k → (ops[j]?).bind (·.dst) ≠ some t) : slotsBy ops r s k t = s t := by
  induction k with
  | zero => rfl
  | succ k ih =>
    unfold slotsBy
    rw [if_neg (h k (by omega))]
    exact ih fun j hj => h j (by omega)

/-- What holds of the frame while some of the operations have come up. -/
structure Along (R : World → World → Prop) (ops : Array Oper) (r : Nat → Held) (w0 : World) (a : Act) (listed : Array Bool) (c : Act) (w : World) : Prop where
  size : listed.size = ops.size
  deps : ∀ j p, ops[j]? = some p → listed.getD j false = true → ∀ e ∈ p.after, Region.binds .any e = true → listed.getD e.on false = true
  done : ∀ j p t, ops[j]? = some p → listed.getD j false = true → p.dst = some t → r j (c.eval (.tmp t)) w
  rest : ∀ t, (∀ j p, ops[j]? = some p → listed.getD j false = true → p.dst ≠ some t) → c.eval (.tmp t) = a.eval (.tmp t)
  frame : c.tmps.size = a.tmps.size
  defers : c.defers = a.defers
  below : R w0 w

theorem eval_put_same {c : Act} {t : Tmp} {x : Value} (h : t < c.tmps.size) : (c.put (some t) x).eval (.tmp t) = x := by
  simp [Act.eval, Act.put, h]
theorem eval_put_ne {c : Act} {t u : Tmp} {x : Value} (h : u ≠ t) : (c.put (some u) x).eval (.tmp t) = c.eval (.tmp t) := by
  simp [Act.eval, Act.put, Array.getElem?_setIfInBounds_ne h]

theorem put_size {c : Act} {d : Option Tmp} {x : Value} : (c.put d x).tmps.size = c.tmps.size := by
  cases d <;> simp [Act.put]
theorem put_defers' {c : Act} {d : Option Tmp} {x : Value} : (c.put d x).defers = c.defers := by
  cases d <;> rfl

theorem getD_lt {l : Array Bool} {i : Nat} (h : l.getD i false = true) : i < l.size := by
  rcases Nat.lt_or_ge i l.size with hlt | hge
  · exact hlt
  · simp [hge] at h

theorem getD_set_self {l : Array Bool} {i : Nat} (h : i < l.size) : (l.setIfInBounds i true).getD i false = true := by
  simp [h]

theorem Along.step [Turns R] (hF : Formed ops n) (hn : a.tmps.size = n) (hk : ∀ k, (r k).keeps R) {listed : Array Bool} {c : Act} {w w' : World} {i : Nat} {o : Oper} {x : Value} (h : Along R ops r w0 a listed c w)
    (ho : ops[i]? = some o) (hi : i ∈ Region.ready .any ops listed) (hw : R w w') (hr : r i x w') : Along R ops r w0 a (listed.setIfInBounds i true) (c.put o.dst x) w' := by
  obtain ⟨hun, o', ho', hall⟩ := mem_ready.1 hi
  obtain rfl : o = o' := by rw [ho] at ho'; exact Option.some.inj ho'
  have hil : i < listed.size := by rw [h.size]; exact lt_of_some ho
  have hset : ∀ j, (listed.setIfInBounds i true).getD j false = true → j = i ∨ listed.getD j false = true := fun j hj => by
    by_cases hij : i = j
    · exact .inl hij.symm
    · rw [getD_set_ne false hij] at hj; exact .inr hj
  refine ⟨by simp [h.size], fun j p hp hj e he hb => ?_, fun j p t hp hj ht => ?_, fun t ht => ?_, by rw [put_size, h.frame], by rw [put_defers', h.defers], Turns.trans h.below hw⟩
  · rcases hset j hj with rfl | hj
    · rw [hp] at ho; cases ho
      exact getD_set_true (hall e he hb)
    · exact getD_set_true (h.deps j p hp hj e he hb)
  · by_cases hji : j = i
    · subst hji
      rw [hp] at ho; cases ho
      rw [ht, eval_put_same (by rw [h.frame, hn]; exact (hF _ _ hp).2.1 t ht)]
      exact hr
    · rcases hset j hj with rfl | hj
      · exact absurd rfl hji
      · have hne : o.dst ≠ some t := ((hF i o ho).2.2 j p t hp hji ht).1
        have : (c.put o.dst x).eval (.tmp t) = c.eval (.tmp t) := by
          cases hd : o.dst with
          | none => rfl
          | some u => exact eval_put_ne (fun e => hne (by rw [hd, e]))
        rw [this]
        exact hk j _ _ _ (h.done j p t hp hj ht) hw
  · have hne : o.dst ≠ some t := ht i o ho (getD_set_self hil)
    have : (c.put o.dst x).eval (.tmp t) = c.eval (.tmp t) := by
      cases hd : o.dst with
      | none => rfl
      | some u => exact eval_put_ne (fun e => hne (by rw [hd, e]))
    rw [this]
    exact h.rest t fun j p hp hj => ht j p hp (getD_set_true hj)

theorem Along.looks (hF : Formed ops n) {listed : Array Bool} {c : Act} {w : World} {i : Nat} {o : Oper} (h : Along R ops r w0 a listed c w) (ho : ops[i]? = some o) (hi : i ∈ Region.ready .any ops listed)
    (t : Tmp) (ht : t ∈ o.looksAt ops) : slotsBy ops r (fun t x _ => x = a.eval (.tmp t)) i t (c.eval (.tmp t)) w := by
  obtain ⟨hun, o', ho', hall⟩ := mem_ready.1 hi
  obtain rfl : o = o' := by rw [ho] at ho'; exact Option.some.inj ho'
  have hil : i < listed.size := by rw [h.size]; exact lt_of_some ho
  have hunf : listed.getD i false ≠ true := by
    intro hh
    have : listed.getD i true = true := by simp [hil] at hh ⊢; exact hh
    rw [hun] at this; cases this
  by_cases hex : ∃ j, j < i ∧ ∃ p, ops[j]? = some p ∧ p.dst = some t
  · obtain ⟨j, hji, p, hp, hd⟩ := hex
    rw [slotsBy_of hF hji hp hd]
    rcases ((hF i o ho).2.2 j p t hp (by omega) hd).2 ht with ⟨_, e, he, hb, rfl⟩ | ⟨hlt, _⟩
    · exact h.done _ p t hp (hall e he hb) hd
    · omega
  · rw [slotsBy_none fun j hj hd => hex ⟨j, hj, by
      cases hp : ops[j]? with
      | none => rw [hp] at hd; cases hd
      | some p => rw [hp] at hd; exact ⟨p, rfl, hd⟩⟩]
    refine h.rest t fun j p hp hj hd => ?_
    have hne : j ≠ i := fun e => hunf (e ▸ hj)
    rcases ((hF i o ho).2.2 j p t hp hne hd).2 ht with ⟨hlt, _⟩ | ⟨_, e, he, hb, rfl⟩
    · exact hex ⟨j, hlt, p, hp, hd⟩
    · exact hunf (h.deps j p hp hj e he hb)

theorem all_listed (hF : Formed ops n) {listed : Array Bool} (hs : listed.size = ops.size) (h : Region.ready .any ops listed = []) : ∀ i, i < ops.size → listed.getD i false = true := by
  intro i
  induction i using Nat.strongRecOn with
  | _ i ih =>
    intro hi
    rcases Bool.eq_false_or_eq_true (listed.getD i false) with ht | hf
    · exact ht
    · exfalso
      have hmem : i ∈ Region.ready .any ops listed := by
        refine mem_ready.2 ⟨?_, ops[i], Array.getElem?_eq_getElem hi, fun e he hb => ?_⟩
        · have hil : i < listed.size := by omega
          simp [hil] at hf ⊢; exact hf
        · have := (hF i _ (Array.getElem?_eq_getElem hi)).1 e he hb
          exact ih _ this (by omega)
      rw [h] at hmem
      cases hmem

theorem count_set {l : Array Bool} {i : Nat} (h : i < l.size) (hf : l.getD i true = false) : (l.setIfInBounds i true).toList.count false + 1 = l.toList.count false := by
  have hl : i < l.toList.length := by simpa using h
  have hx : l.toList[i] = false := by simp [h] at hf; simpa using hf
  rw [Array.toList_setIfInBounds, List.count_set hl, hx]
  have : 0 < l.toList.count false := List.count_pos_iff.2 (hx ▸ List.getElem_mem hl)
  show ((l.toList.count false - 1) + 0) + 1 = _
  omega

theorem replicate_getD (n j : Nat) : (Array.replicate n false).getD j false = false := by
  rw [Array.getD_eq_getD_getElem?, Array.getElem?_replicate]
  split <;> rfl

theorem wpAny_along [Turns R] (hF : Formed ops n) (hn : a.tmps.size = n) (hk : ∀ k, (r k).keeps R) (hS : ∀ i o, ops[i]? = some o → Serves R P ops w0 o (slotsBy ops r (fun t x _ => x = a.eval (.tmp t)) i) (r i))
    {Q : Exit → Act → World → Prop}
    (hQ : ∀ c w, R w0 w → c.tmps.size = a.tmps.size → c.defers = a.defers → (∀ t, slotsBy ops r (fun t x _ => x = a.eval (.tmp t)) ops.size t (c.eval (.tmp t)) w) → Q .normal c w) :
    ∀ (fuel : Nat) (listed : Array Bool) (c : Act) (w : World), listed.toList.count false ≤ fuel → Along R ops r w0 a listed c w → wpAny P .any ops Q fuel listed c w := by
  have hend : ∀ (listed : Array Bool) (c : Act) (w : World), Along R ops r w0 a listed c w → Region.ready .any ops listed = [] → Q .normal c w := fun listed c w h h0 => by
    have hall := all_listed hF h.size h0
    refine hQ c w h.below h.frame h.defers fun t => ?_
    by_cases hex : ∃ (j : Nat) (p : Oper), ops[j]? = some p ∧ p.dst = some t
    · obtain ⟨j, p, hp, hd⟩ := hex
      rw [slotsBy_of hF (lt_of_some hp) hp hd]
      exact h.done j p t hp (hall j (lt_of_some hp)) hd
    · rw [slotsBy_none fun j hj hd => hex ⟨j, by
        cases hp : ops[j]? with
        | none => rw [hp] at hd; cases hd
        | some p => rw [hp] at hd; exact ⟨p, rfl, hd⟩⟩]
      exact h.rest t fun j p hp _ hd => hex ⟨j, p, hp, hd⟩
  intro fuel
  induction fuel with
  | zero =>
    intro listed c w hc h
    have h0 : Region.ready .any ops listed = [] := by
      cases hr : Region.ready .any ops listed with
      | nil => rfl
      | cons i l =>
        have hi : i ∈ Region.ready .any ops listed := by rw [hr]; exact List.mem_cons_self
        obtain ⟨hun, o, ho, _⟩ := mem_ready.1 hi
        have hil : i < listed.size := by rw [h.size]; exact lt_of_some ho
        have := count_set hil hun
        omega
    exact ⟨h0, hend _ _ _ h h0⟩
  | succ fuel ih =>
    intro listed c w hc h
    refine ⟨hend _ _ _ h, fun i hi => ?_⟩
    obtain ⟨hun, o, ho, _⟩ := mem_ready.1 hi
    have hil : i < listed.size := by rw [h.size]; exact lt_of_some ho
    have hcnt := count_set hil hun
    unfold wpOp
    rw [ho]
    simp only []
    rcases hS i o ho c w h.below (h.looks hF ho hi) with ⟨h1, h2⟩ | ⟨h1, h2⟩
    · rw [h1]
      exact ih _ _ _ (by omega) (h.step hF hn hk ho hi (Turns.refl w) h2)
    · rw [h1]
      exact .inl (h2 _ _ fun x w' hb hr => ih _ _ _ (by omega) (h.step hF hn hk ho hi hb hr))
end

/-- The walk: one operation behind another, in the order of the text. -/
def wpLex (R : World → World → Prop) (P : Program) (ops : Array Oper) (w0 : World) (Fin : (Tmp → Held) → Prop) : List Oper → (Tmp → Held) → Prop
  | [], s => Fin s
  | o :: rest, s => ∃ r : Held, r.keeps R ∧ Serves R P ops w0 o s r ∧ wpLex R P ops w0 Fin rest (fun t => if o.dst = some t then r else s t)

theorem wpLex_get {R : World → World → Prop} {P : Program} {ops : Array Oper} {w0 : World} {Fin : (Tmp → Held) → Prop} : ∀ (l : List Oper) (k : Nat) (r : Nat → Held) (s0 : Tmp → Held), (∀ j, l[j]? = ops[k + j]?) →
    (∀ j, j < k → (r j).keeps R) → (∀ j o, j < k → ops[j]? = some o → Serves R P ops w0 o (slotsBy ops r s0 j) (r j)) → wpLex R P ops w0 Fin l (slotsBy ops r s0 k) →
    ∃ r' : Nat → Held, (∀ j, (r' j).keeps R) ∧ (∀ j o, ops[j]? = some o → Serves R P ops w0 o (slotsBy ops r' s0 j) (r' j)) ∧ Fin (slotsBy ops r' s0 (k + l.length))
  | [], k, r, s0, hl, h1, h2, h => by
    have hs : ∀ m, m ≤ k → slotsBy ops (fun j => if j < k then r j else fun _ _ => True) s0 m = slotsBy ops r s0 m := by
      intro m
      induction m with
      | zero => intro _; rfl
      | succ m ih =>
        intro hm
        funext t
        unfold slotsBy
        rw [ih (by omega), if_pos (show m < k by omega)]
    have hsz : ∀ j o, ops[j]? = some o → j < k := fun j o ho => by
      rcases Nat.lt_or_ge j k with hlt | hge
      · exact hlt
      · have := hl (j - k)
        rw [show k + (j - k) = j by omega, ho] at this
        cases this
    refine ⟨fun j => if j < k then r j else fun _ _ => True, fun j => ?_, fun j o ho => ?_, ?_⟩
    · by_cases hj : j < k
      · simp only [hj, if_true]; exact h1 j hj
      · simp only [hj, if_false]; exact fun _ _ _ _ _ => trivial
    · have hj := hsz j o ho
      simp only [hj, if_true]
      rw [hs j (by omega)]
      exact h2 j o hj ho
    · rw [List.length_nil, Nat.add_zero, hs k (Nat.le_refl _)]
      exact h
  | o :: rest, k, r, s0, hl, h1, h2, h => by
    obtain ⟨q, hq, hsv, hrest⟩ := h
    have ho : ops[k]? = some o := by simpa using (hl 0).symm
    have hs : ∀ m, m ≤ k → slotsBy ops (fun j => if j = k then q else r j) s0 m = slotsBy ops r s0 m := by
      intro m
      induction m with
      | zero => intro _; rfl
      | succ m ih =>
        intro hm
        funext t
        unfold slotsBy
        rw [ih (by omega), if_neg (show m ≠ k by omega)]
    have := wpLex_get rest (k + 1) (fun j => if j = k then q else r j) s0 (fun j => by have := hl (j + 1); simpa [Nat.add_assoc, Nat.add_comm 1 j] using this)
      (fun j hj => by
        by_cases hjk : j = k
        · simp only [hjk, if_true]; exact hq
        · simp only [hjk, if_false]; exact h1 j (by omega))
      (fun j p hj hp => by
        rw [hs j (by omega)]
        by_cases hjk : j = k
        · subst hjk
          simp only [if_true]
          rw [hp] at ho; cases ho
          exact hsv
        · simp only [hjk, if_false]; exact h2 j p (by omega) hp)
      (by
        have : slotsBy ops (fun j => if j = k then q else r j) s0 (k + 1) = fun t => if o.dst = some t then q else slotsBy ops r s0 k t := by
          funext t
          show (if (ops[k]?).bind (·.dst) = some t then _ else _) = _
          rw [hs k (Nat.le_refl _), ho]
          simp
        rw [this]
        exact hrest)
    rwa [show k + 1 + rest.length = k + (o :: rest).length by simp; omega] at this

/-- The region. -/
theorem wp_region_lex {R : World → World → Prop} [Turns R] {P : Program} {id : Nat} {Q : Exit → Act → World → Prop} {a : Act} {w : World} {l : List Oper} (hm : P.follows .mixedOrders = true) (hB : formedB l.toArray a.tmps.size = true)
    (h : wpLex R P l.toArray w (fun s => ∀ c w', R w w' → c.tmps.size = a.tmps.size → c.defers = a.defers → (∀ t, s t (c.eval (.tmp t)) w') → Q .normal c w') l (fun t x _ => x = a.eval (.tmp t))) :
    (Code.region id l.toArray true).wp P Q a w := by
  obtain ⟨r, h1, h2, h3⟩ := wpLex_get (ops := l.toArray) l 0 (fun _ _ _ => True) (fun t x _ => x = a.eval (.tmp t)) (fun j => by simp) (fun j hj => by omega) (fun j _ hj => by omega) h
  refine wp_region_any hm ?_
  have hF := formed_of hB
  refine wpAny_along hF rfl h1 h2 (fun c w' hb hs hd ht => h3 c w' hb hs hd (by simpa using ht)) _ _ _ _ ?_ ⟨by simp, fun j p hp hj => ?_, fun j p t hp hj => ?_, fun _ _ => rfl, rfl, rfl, Turns.drew w⟩
  · rw [Array.toList_replicate]; exact Nat.le_trans List.count_le_length (by simp)
  · rw [replicate_getD] at hj; cases hj
  · rw [replicate_getD] at hj; cases hj

/-! ### The last operation, to which all others lead -/

def ledB (ops : Array Oper) (m : Nat) : Bool :=
  decide (ops.size = m + 1) && (List.range m).all fun j => (List.range ops.size).any fun k => decide (j < k) && match ops[k]? with
    | none => false
    | some p => p.after.toList.any fun e => Region.binds .any e && decide (e.on = j)

theorem led_of {ops : Array Oper} {m : Nat} (h : ledB ops m = true) : ops.size = m + 1 ∧ ∀ j, j < m → ∃ k p, j < k ∧ ops[k]? = some p ∧ ∃ e ∈ p.after, Region.binds .any e = true ∧ e.on = j := by
  unfold ledB at h
  rw [Bool.and_eq_true, decide_eq_true_eq, List.all_eq_true] at h
  refine ⟨h.1, fun j hj => ?_⟩
  have := h.2 j (List.mem_range.2 hj)
  rw [List.any_eq_true] at this
  obtain ⟨k, hk, hb⟩ := this
  rw [Bool.and_eq_true, decide_eq_true_eq] at hb
  obtain ⟨h1, h2⟩ := hb
  cases hp : ops[k]? with
  | none => rw [hp] at h2; cases h2
  | some p =>
    rw [hp] at h2
    simp only [List.any_eq_true, Bool.and_eq_true, decide_eq_true_eq] at h2
    obtain ⟨e, he, hb⟩ := h2
    exact ⟨k, p, h1, hp, e, Array.mem_toList_iff.1 he, hb.1, hb.2⟩

section
variable {R : World → World → Prop} {P : Program} {ops : Array Oper} {n m : Nat} {r : Nat → Held} {w0 : World} {a : Act}

/-- Where the last one may come up all others have. -/
theorem led_all (hsz : ops.size = m + 1) (hl : ∀ j, j < m → ∃ k p, j < k ∧ ops[k]? = some p ∧ ∃ e ∈ p.after, Region.binds .any e = true ∧ e.on = j) {listed : Array Bool} {c : Act} {w : World} (h : Along R ops r w0 a listed c w)
    (hm : m ∈ Region.ready .any ops listed) : ∀ d j, j + d + 1 = m → listed.getD j false = true := by
  intro d
  induction d using Nat.strongRecOn with
  | _ d ih =>
    intro j hj
    obtain ⟨k, p, hjk, hp, e, he, hb, rfl⟩ := hl j (by omega)
    have hk : k < ops.size := lt_of_some hp
    by_cases hkm : k = m
    · subst hkm
      obtain ⟨_, o, ho, hall⟩ := mem_ready.1 hm
      rw [hp] at ho; cases ho
      exact hall e he hb
    · exact h.deps k p hp (ih (m - 1 - k) (by omega) k (by omega)) e he hb

theorem wpAny_led [Turns R] (hF : Formed ops n) (hn : a.tmps.size = n) (hk : ∀ k, (r k).keeps R) (hsz : ops.size = m + 1) (hl : ∀ j, j < m → ∃ k p, j < k ∧ ops[k]? = some p ∧ ∃ e ∈ p.after, Region.binds .any e = true ∧ e.on = j)
    (hS : ∀ i o, i < m → ops[i]? = some o → Serves R P ops w0 o (slotsBy ops r (fun t x _ => x = a.eval (.tmp t)) i) (r i)) {Q : Exit → Act → World → Prop}
    (hQ : ∀ c w, R w0 w → c.tmps.size = a.tmps.size → c.defers = a.defers → (∀ t, slotsBy ops r (fun t x _ => x = a.eval (.tmp t)) m t (c.eval (.tmp t)) w) → wpOp P ops Q m (Q .normal) c w) :
    ∀ (fuel : Nat) (listed : Array Bool) (c : Act) (w : World), listed.toList.count false ≤ fuel → Along R ops r w0 a listed c w → listed.getD m true = false → wpAny P .any ops Q fuel listed c w := by
  have hnot : ∀ (listed : Array Bool) (c : Act) (w : World), Along R ops r w0 a listed c w → listed.getD m true = false → Region.ready .any ops listed ≠ [] := fun listed c w h hm h0 => by
    have := all_listed hF h.size h0 m (by omega)
    have hlt := getD_lt this
    simp [hlt] at this hm
    rw [hm] at this; cases this
  intro fuel
  induction fuel with
  | zero =>
    intro listed c w hc h hm
    exfalso
    have hml : m < listed.size := by rw [h.size]; omega
    have := count_set hml hm
    omega
  | succ fuel ih =>
    intro listed c w hc h hm
    refine ⟨fun h0 => absurd h0 (hnot _ _ _ h hm), fun i hi => ?_⟩
    obtain ⟨hun, o, ho, _⟩ := mem_ready.1 hi
    have hil : i < listed.size := by rw [h.size]; exact lt_of_some ho
    have hcnt := count_set hil hun
    by_cases him : i = m
    · subst him
      have hall := led_all hsz hl h hi
      have hfit : ∀ t, slotsBy ops r (fun t x _ => x = a.eval (.tmp t)) i t (c.eval (.tmp t)) w := fun t => by
        by_cases hex : ∃ (j : Nat) (p : Oper), j < i ∧ ops[j]? = some p ∧ p.dst = some t
        · obtain ⟨j, p, hji, hp, hd⟩ := hex
          rw [slotsBy_of hF hji hp hd]
          exact h.done j p t hp (hall (i - 1 - j) j (by omega)) hd
        · rw [slotsBy_none fun j hj hd => hex ⟨j, by
            cases hp : ops[j]? with
            | none => rw [hp] at hd; cases hd
            | some p => rw [hp] at hd; exact ⟨p, hj, rfl, hd⟩⟩]
          refine h.rest t fun j p hp hj hd => hex ⟨j, p, ?_, hp, hd⟩
          have hjs := lt_of_some hp
          have hne : j ≠ i := fun e => by
            subst e
            simp [hil] at hun hj
            rw [hun] at hj; cases hj
          omega
      refine wpOp_mono (fun c' w' hq => ?_) (hQ c w h.below h.frame h.defers hfit)
      have hempty : Region.ready .any ops (listed.setIfInBounds i true) = [] := by
        cases hr : Region.ready .any ops (listed.setIfInBounds i true) with
        | nil => rfl
        | cons k l =>
          exfalso
          have hk' : k ∈ Region.ready .any ops (listed.setIfInBounds i true) := by rw [hr]; exact List.mem_cons_self
          obtain ⟨hku, p, hp, _⟩ := mem_ready.1 hk'
          have hks := lt_of_some hp
          have hkl : (listed.setIfInBounds i true).getD k false = true := by
            by_cases hki : k = i
            · subst hki; exact getD_set_self hil
            · exact getD_set_true (hall (i - 1 - k) k (by omega))
          have hlt := getD_lt hkl
          rw [Array.size_setIfInBounds] at hlt
          simp [hlt] at hku hkl
          rw [hku] at hkl; cases hkl
      cases fuel with
      | zero => exact ⟨hempty, hq⟩
      | succ fuel => exact ⟨fun _ => hq, fun k hk => by rw [hempty] at hk; cases hk⟩
    · have hlt : i < m := by have := lt_of_some ho; omega
      have hm' : (listed.setIfInBounds i true).getD m true = false := by rw [getD_set_ne true him]; exact hm
      unfold wpOp
      rw [ho]
      simp only []
      rcases hS i o hlt ho c w h.below (h.looks hF ho hi) with ⟨h1, h2⟩ | ⟨h1, h2⟩
      · rw [h1]
        exact ih _ _ _ (by omega) (h.step hF hn hk ho hi (Turns.refl w) h2) hm'
      · rw [h1]
        exact .inl (h2 _ _ fun x w' hb hr => ih _ _ _ (by omega) (h.step hF hn hk ho hi hb hr) hm')
end

/-! ### The rules of the walk: the frame is written out; some slots are hidden behind a relation -/

def heldBy : List (Tmp × Held) → Tmp → Option Held
  | [], _ => none
  | (k, r) :: H, t => if k = t then some r else heldBy H t

def fits (H : List (Tmp × Held)) (a : Act) : Tmp → Held := fun t => match heldBy H t with
  | some r => r
  | none => fun x _ => x = a.eval (.tmp t)

/-- The walk at a frame. -/
def lexAt (R : World → World → Prop) (P : Program) (ops : Array Oper) (w0 : World) (n : Nat) (ds : List Deferred) (F : Act → World → Prop) (l : List Oper) (H : List (Tmp × Held)) (a : Act) : Prop :=
  wpLex R P ops w0 (fun s => ∀ c w', R w0 w' → c.tmps.size = n → c.defers = ds → (∀ t, s t (c.eval (.tmp t)) w') → F c w') l (fits H a)

theorem wp_region_at {R : World → World → Prop} [Turns R] {P : Program} {id : Nat} {Q : Exit → Act → World → Prop} {a : Act} {w : World} {l : List Oper} (hm : P.follows .mixedOrders = true) (hB : formedB l.toArray a.tmps.size = true)
    (h : lexAt R P l.toArray w a.tmps.size a.defers (Q .normal) l [] a) : (Code.region id l.toArray true).wp P Q a w := wp_region_lex hm hB h

def hideAll : List (Tmp × Held) → Act → World → (Act → Prop) → Prop
  | [], a, _, F => F a
  | (k, r) :: H, a, w, F => ∀ x, r x w → hideAll H (a.put (some k) x) w F

def apartB : List (Tmp × Held) → Bool
  | [] => true
  | (k, _) :: H => (heldBy H k).isNone && apartB H

theorem hideAll_use : ∀ (H : List (Tmp × Held)) (a : Act) (w : World) (F : Act → Prop), apartB H = true → hideAll H a w F → ∀ c : Act, c.tmps.size = a.tmps.size → c.defers = a.defers → (∀ t, fits H a t (c.eval (.tmp t)) w) → F c
  | [], a, w, F, _, h, c, h1, h2, h3 => by
    have : c = a := by
      cases c; cases a
      simp only at h1 h2
      subst h2
      congr 1
      apply Array.ext h1
      intro i hi hj
      have := h3 i
      unfold fits heldBy at this
      simpa [Act.eval, hi, hj] using this
    exact this ▸ h
  | (k, r) :: H, a, w, F, hap, h, c, h1, h2, h3 => by
    unfold apartB at hap
    rw [Bool.and_eq_true] at hap
    have hr : r (c.eval (.tmp k)) w := by
      have := h3 k
      unfold fits heldBy at this
      simpa using this
    refine hideAll_use H _ w F hap.2 (h (c.eval (.tmp k)) hr) c (by rw [put_size]; exact h1) (by rw [put_defers']; exact h2) fun t => ?_
    by_cases hk : k = t
    · subst hk
      unfold fits
      cases hh : heldBy H k with
      | some q => rw [hh] at hap; cases hap.1
      | none =>
        simp only []
        rcases Nat.lt_or_ge k a.tmps.size with hlt | hge
        · rw [eval_put_same hlt]
        · have e1 : c.eval (.tmp k) = undef := by simp [Act.eval, show c.tmps.size ≤ k by omega]
          have e2 : ∀ x, (a.put (some k) x).eval (.tmp k) = undef := fun x => by simp [Act.eval, Act.put, hge]
          rw [e2]; exact e1
    · have := h3 t
      unfold fits at this ⊢
      rw [show heldBy ((k, r) :: H) t = if k = t then some r else heldBy H t from rfl, if_neg hk] at this
      rw [eval_put_ne hk]
      exact this

/-- A region whose last operation all others lead to. -/
theorem wp_region_led {R : World → World → Prop} [Turns R] {P : Program} {id : Nat} {Q : Exit → Act → World → Prop} {a : Act} {w : World} {l : List Oper} {oL : Oper} (hm : P.follows .mixedOrders = true) (hB : formedB l.toArray a.tmps.size = true)
    (hL : l.getLast? = some oL) (hD : ledB l.toArray (l.length - 1) = true) (h : lexAt R P l.toArray w a.tmps.size a.defers (fun c w' => wpList P l.toArray Q [oL] c w') l.dropLast [] a) : (Code.region id l.toArray true).wp P Q a w := by
  have hF := formed_of hB
  obtain ⟨hsz, hl⟩ := led_of hD
  have hlen : l.length = (l.length - 1) + 1 := by simpa using hsz
  have hget : ∀ j, j < l.length - 1 → l.dropLast[j]? = l.toArray[j]? := fun j hj => by
    rw [List.getElem?_dropLast]; simp [hj]
  -- the walk over the list without its last
  have key : ∀ (rest : List Oper) (k : Nat) (r : Nat → Held), k + rest.length = l.length - 1 → (∀ j, j < rest.length → rest[j]? = l.toArray[k + j]?) →
      (∀ j, j < k → (r j).keeps R) → (∀ j o, j < k → l.toArray[j]? = some o → Serves R P l.toArray w o (slotsBy l.toArray r (fun t x _ => x = a.eval (.tmp t)) j) (r j)) →
      wpLex R P l.toArray w (fun s => ∀ c w', R w w' → c.tmps.size = a.tmps.size → c.defers = a.defers → (∀ t, s t (c.eval (.tmp t)) w') → wpList P l.toArray Q [oL] c w') rest (slotsBy l.toArray r (fun t x _ => x = a.eval (.tmp t)) k) →
      ∃ r' : Nat → Held, (∀ j, (r' j).keeps R) ∧ (∀ j o, j < l.length - 1 → l.toArray[j]? = some o → Serves R P l.toArray w o (slotsBy l.toArray r' (fun t x _ => x = a.eval (.tmp t)) j) (r' j)) ∧
        ∀ c w', R w w' → c.tmps.size = a.tmps.size → c.defers = a.defers → (∀ t, slotsBy l.toArray r' (fun t x _ => x = a.eval (.tmp t)) (l.length - 1) t (c.eval (.tmp t)) w') → wpList P l.toArray Q [oL] c w' := by
    intro rest
    induction rest with
    | nil =>
      intro k r hk _ h1 h2 h3
      have hk' : k = l.length - 1 := by simpa using hk
      have hs : ∀ q, q ≤ k → slotsBy l.toArray (fun j => if j < k then r j else fun _ _ => True) (fun t x _ => x = a.eval (.tmp t)) q = slotsBy l.toArray r (fun t x _ => x = a.eval (.tmp t)) q := by
        intro q
        induction q with
        | zero => intro _; rfl
        | succ q ih =>
          intro hq
          funext t
          unfold slotsBy
          rw [ih (by omega), if_pos (show q < k by omega)]
      refine ⟨fun j => if j < k then r j else fun _ _ => True, fun j => ?_, fun j o hj ho => ?_, ?_⟩
      · by_cases hj : j < k
        · simp only [hj, if_true]; exact h1 j hj
        · simp only [hj, if_false]; exact fun _ _ _ _ _ => trivial
      · have hj' : j < k := by omega
        simp only [hj', if_true]
        rw [hs j (by omega)]
        exact h2 j o hj' ho
      · rw [← hk', hs k (Nat.le_refl _)]
        exact h3
    | cons o rest ih =>
      intro k r hk hl' h1 h2 h3
      obtain ⟨q, hq, hsv, hrest⟩ := h3
      have ho : l.toArray[k]? = some o := by simpa using (hl' 0 (by simp)).symm
      have hs : ∀ m, m ≤ k → slotsBy l.toArray (fun j => if j = k then q else r j) (fun t x _ => x = a.eval (.tmp t)) m = slotsBy l.toArray r (fun t x _ => x = a.eval (.tmp t)) m := by
        intro m
        induction m with
        | zero => intro _; rfl
        | succ m ih =>
          intro hm
          funext t
          unfold slotsBy
          rw [ih (by omega), if_neg (show m ≠ k by omega)]
      refine ih (k + 1) (fun j => if j = k then q else r j) (by simp at hk; omega) (fun j hj => ?_) (fun j hj => ?_) (fun j p hj hp => ?_) ?_
      · have := hl' (j + 1) (by simp; omega)
        rw [show k + 1 + j = k + (j + 1) by omega, ← this]
        simp
      · by_cases hjk : j = k
        · simp only [hjk, if_true]; exact hq
        · simp only [hjk, if_false]; exact h1 j (by omega)
      · rw [hs j (by omega)]
        by_cases hjk : j = k
        · subst hjk
          simp only [if_true]
          rw [hp] at ho; cases ho
          exact hsv
        · simp only [hjk, if_false]; exact h2 j p (by omega) hp
      · have : slotsBy l.toArray (fun j => if j = k then q else r j) (fun t x _ => x = a.eval (.tmp t)) (k + 1) = fun t => if o.dst = some t then q else slotsBy l.toArray r (fun t x _ => x = a.eval (.tmp t)) k t := by
          funext t
          show (if (l.toArray[k]?).bind (·.dst) = some t then _ else _) = _
          rw [hs k (Nat.le_refl _), ho]
          simp
        rw [this]
        exact hrest
  obtain ⟨r, h1, h2, h3⟩ := key l.dropLast 0 (fun _ _ _ => True) (by simp) (fun j hj => by rw [Nat.zero_add]; exact hget j (by simpa using hj)) (fun j hj => by omega) (fun j _ hj => by omega) h
  refine wp_region_any hm ?_
  have hlast : l.toArray[l.length - 1]? = some oL := by rw [← hL, List.getLast?_eq_getElem?]; simp
  refine wpAny_led hF rfl h1 hsz hl h2 (fun c w' hb hs hd ht => ?_) _ _ _ _ ?_ ⟨by simp, fun j p hp hj => ?_, fun j p t hp hj => ?_, fun _ _ => rfl, rfl, rfl, Turns.drew w⟩ ?_
  · have := h3 c w' hb hs hd ht
    unfold wpOp
    rw [hlast]
    exact this
  · rw [Array.toList_replicate]; exact Nat.le_trans List.count_le_length (by simp)
  · rw [replicate_getD] at hj; cases hj
  · rw [replicate_getD] at hj; cases hj
  · rw [Array.getD_eq_getD_getElem?, Array.getElem?_replicate, if_pos (by rw [List.size_toArray]; omega)]; rfl

section
variable {R : World → World → Prop} {P : Program} {ops : Array Oper} {w0 : World} {n : Nat} {ds : List Deferred} {F : Act → World → Prop} {rest : List Oper} {H : List (Tmp × Held)} {a : Act} {o : Oper}

theorem lex_nil (h1 : a.tmps.size = n) (h2 : a.defers = ds) (h0 : apartB H = true) (h : ∀ w', R w0 w' → hideAll H a w' (fun c => F c w')) : lexAt R P ops w0 n ds F [] H a := by
  intro c w' hb hs hd ht
  exact hideAll_use H a w' _ h0 (h w' hb) c (hs.trans h1.symm) (hd.trans h2.symm) ht

/-- No hidden slot is looked at, and none is written; what is written lies in the frame. -/
def looksFree (ops : Array Oper) (H : List (Tmp × Held)) (o : Oper) : Bool := (o.looksAt ops).all fun t => (heldBy H t).isNone
def writesFree (H : List (Tmp × Held)) (a : Act) : Option Tmp → Bool
  | none => true
  | some d => decide (d < a.tmps.size) && (heldBy H d).isNone

theorem eval_of_fits (hl : looksFree ops H o = true) {c : Act} {w : World} (h : ∀ t ∈ o.looksAt ops, fits H a t (c.eval (.tmp t)) w) : ∀ t ∈ o.looksAt ops, c.eval (.tmp t) = a.eval (.tmp t) := fun t ht => by
  have h1 := h t ht
  have h2 := List.all_eq_true.1 hl t ht
  unfold fits at h1
  cases hh : heldBy H t with
  | none => rw [hh] at h1; exact h1
  | some r => rw [hh] at h2; cases h2

theorem exec_of_fits (hs : ∀ cs b, o.op ≠ .select cs b) {c : Act} (h : ∀ t ∈ o.looksAt ops, c.eval (.tmp t) = a.eval (.tmp t)) : execOp c.eval o = execOp a.eval o :=
  execOp_congr o hs fun x hx => by
    cases x with
    | tmp t => exact h t (List.mem_append_left _ (List.mem_filterMap.2 ⟨.tmp t, by simpa using hx, rfl⟩))
    | _ => rfl

theorem wanted_of_fits {c : Act} (h : ∀ g b t, o.guard = some (g, b) → (ops[g]?).bind (·.dst) = some t → c.eval (.tmp t) = a.eval (.tmp t)) : Region.wanted o (yielded ops c.tmps) = Region.wanted o (yielded ops a.tmps) := by
  unfold Region.wanted
  cases hg : o.guard with
  | none => rfl
  | some gb =>
    obtain ⟨g, b⟩ := gb
    have : yielded ops c.tmps g = yielded ops a.tmps g := by
      unfold yielded
      cases ht : (ops[g]?).bind (·.dst) with
      | none => rfl
      | some t =>
        have he := h g b t hg ht
        simp only [Act.eval, Array.getD_eq_getD_getElem?] at he
        simp only [Option.bind_some]
        cases h1 : c.tmps[t]? <;> cases h2 : a.tmps[t]? <;> rw [h1, h2] at he <;> simp only [Option.getD_none, Option.getD_some] at he
        · rw [← he]; rfl
        · rw [he]; rfl
        · rw [he]
    simp only [this]

theorem guard_looks {g : Nat} {b : Bool} {t : Tmp} (hg : o.guard = some (g, b)) (ht : (ops[g]?).bind (·.dst) = some t) : t ∈ o.looksAt ops := by
  unfold Oper.looksAt
  rw [hg]
  exact List.mem_append_right _ (by simp [ht])

theorem fits_put (hw : writesFree H a o.dst = true) (v : Value) : (fun t => if o.dst = some t then (fun x _ => x = v : Held) else fits H a t) = fits H (a.put o.dst v) := by
  funext t
  cases hd : o.dst with
  | none => simp [Act.put]
  | some d =>
    rw [hd] at hw
    simp only [writesFree, Bool.and_eq_true, decide_eq_true_eq] at hw
    by_cases hdt : d = t
    · subst hdt
      rw [if_pos rfl]
      unfold fits
      cases hh : heldBy H d with
      | some r => rw [hh] at hw; cases hw.2
      | none => simp only []; rw [eval_put_same hw.1]
    · rw [if_neg (fun e => hdt (Option.some.inj e))]
      unfold fits
      rw [eval_put_ne hdt]

/-- Whether an operation is one that only reckons. -/
def plainOp : Op → Bool
  | .move _ | .assign _ | .pick _ _ _ | .load _ _ | .binOp _ _ _ _ _ | .unOp _ _ _ | .convert _ _ _ | .fieldAddr _ _ _ | .field _ _ _ | .indexAddr _ _ _ | .index _ _ _ | .extract _ _ | .makeFunc _ _ _ | .makeInterface _ _ | .nilCheck _ => true
  | _ => false

theorem run_wrap {s : Sem Value} {w w' : World} {f : FuncId} {args : Array Value} : (do pure (Next.value (← s)) : Sem Next).run P w ≠ .ok (.enter f args) w' := by
  intro h
  rw [Sem.run_bind] at h
  cases hs : s.run P w <;> rw [hs] at h <;> simp [go_sem] at h

theorem run_last {α : Type} {s : Sem α} {g : α → Next} {w w' : World} {f : FuncId} {args : Array Value} (hg : ∀ a f args, g a ≠ .enter f args) : (do let x ← s; pure (g x) : Sem Next).run P w ≠ .ok (.enter f args) w' := by
  intro h
  rw [Sem.run_bind] at h
  cases hs : s.run P w <;> rw [hs] at h
  · simp only [Result.andThen, Sem.run_pure, Result.ok.injEq] at h
    exact hg _ _ _ h.1
  · simp [Result.andThen] at h

theorem plain_not_enter (h : plainOp o.op = true) (e : Operand → Value) (w w' : World) (f : FuncId) (args : Array Value) : (execOp e o).run P w ≠ .ok (.enter f args) w' := by
  obtain ⟨dst, op, type, pos, after, guard⟩ := o
  cases op <;> simp only [plainOp, Bool.false_eq_true] at h <;> simp only [execOp] <;> first | exact run_wrap | skip
  · intro h; simp [go_sem] at h
  · intro h; simp [go_sem] at h
  · intro h
    rw [Sem.run_bind] at h
    generalize (asBool _).run P w = q at h
    cases q <;> simp [go_sem] at h
  · split
    · intro h; simp [go_sem] at h
    · intro h; simp [go_sem] at h
    · intro h; simp [go_sem] at h
    · split
      · intro h; simp [go_sem] at h
      · exact fun h => by
          simp only [Sem.run_bind] at h
          generalize Sem.run P _ w = q at h
          cases q with
          | halt _ _ => simp [go_sem] at h
          | ok v w1 =>
            simp only [Result.andThen] at h
            generalize Sem.run P (nilAhead _ _ _ _) w1 = q at h
            cases q with
            | halt _ _ => simp at h
            | ok b w2 =>
              simp only [] at h
              split at h <;> simp [go_sem] at h
      · intro h; simp [go_sem] at h
    · intro h; simp [go_sem] at h

theorem lex_skip (hw : Region.wanted o (yielded ops a.tmps) = false) (hl : looksFree ops H o = true) (hd : writesFree H a o.dst = true) (h : lexAt R P ops w0 n ds F rest H (a.put o.dst undef)) : lexAt R P ops w0 n ds F (o :: rest) H a := by
  refine ⟨fun x _ => x = undef, fun _ _ _ h _ => h, fun c w hb hs => .inl ⟨?_, rfl⟩, ?_⟩
  · rw [wanted_of_fits fun g b t hg ht => eval_of_fits hl hs t (guard_looks hg ht)]; exact hw
  · rw [fits_put hd]; exact h

theorem lex_plain [Turns R] (hw : Region.wanted o (yielded ops a.tmps) = true) (hp : plainOp o.op = true) (hl : looksFree ops H o = true) (hd : writesFree H a o.dst = true)
    (h : o.quiet P a (fun w' => ∃ x : RW R w0, w' = x.w) (fun a' => lexAt R P ops w0 n ds F rest H a')) : lexAt R P ops w0 n ds F (o :: rest) H a := by
  obtain ⟨v, h1, h2⟩ := h
  refine ⟨fun x _ => x = v, fun _ _ _ h _ => h, fun c w hb hs => .inr ?_, by rw [fits_put hd]; exact h2⟩
  have he := eval_of_fits hl hs
  refine ⟨by rw [wanted_of_fits fun g b t hg ht => he t (guard_looks hg ht)]; exact hw, fun K Q' hK => ?_⟩
  have h3 := h1 w ⟨⟨w, hb⟩, rfl⟩
  have hne : ∀ w' f args, (execOp a.eval o).run P w ≠ .ok (.enter f args) w' := fun w' f args => plain_not_enter hp a.eval w w' f args
  unfold Oper.quietAt at h3
  unfold Oper.wp
  rw [exec_of_fits (fun cs b e => by rw [e] at hp; cases hp) he]
  generalize (execOp a.eval o).run P w = res at *
  cases res with
  | ok m w' =>
    cases m <;> simp only [Oper.quietUpon] at h3 <;> simp only [Oper.upon]
    case value u =>
      obtain ⟨rfl, rfl⟩ := h3
      exact hK _ _ (Turns.refl _) rfl
    case skip =>
      obtain ⟨rfl, rfl⟩ := h3
      exact hK _ _ (Turns.refl _) rfl
    case enter f args => exact absurd rfl (hne _ _ _)
  | halt x w' => simp only [Oper.quietUpon] at h3

/-- A call whose callee may make new memory. -/
theorem lex_call {f : FuncId} {args : Array Value} {v : Value} (hw : Region.wanted o (yielded ops a.tmps) = true) (hns : ∀ cs b, o.op ≠ .select cs b) (hl : looksFree ops H o = true) (hd : writesFree H a o.dst = true)
    (hr : ∀ w, (execOp a.eval o).run P w = .ok (.enter f args) w) (hc : ∀ w, R w0 w → Calls P f args w fun e w' => e = .returned v ∧ R w w')
    (h : lexAt R P ops w0 n ds F rest H (a.put o.dst v)) : lexAt R P ops w0 n ds F (o :: rest) H a := by
  refine ⟨fun x _ => x = v, fun _ _ _ h _ => h, fun c w hb hs => .inr ?_, by rw [fits_put hd]; exact h⟩
  have he := eval_of_fits hl hs
  refine ⟨by rw [wanted_of_fits fun g b t hg ht => he t (guard_looks hg ht)]; exact hw, fun K Q' hK => ?_⟩
  unfold Oper.wp
  rw [exec_of_fits hns he, hr]
  exact (hc w hb).mono fun e w' ⟨h1, h2⟩ => by subst h1; exact hK _ _ h2 rfl

/-- One plain operation, by the cheap step of the library's quiet walk. -/
theorem lex_one [Turns R] (hp : plainOp o.op = true) (hl : looksFree ops H o = true) (hd : writesFree H a o.dst = true)
    (h : ∀ K : Act → Prop, (∀ a', lexAt R P ops w0 n ds F rest H a' → K a') → wpQuiet P ops (fun w' => ∃ x : RW R w0, w' = x.w) K [o] a) : lexAt R P ops w0 n ds F (o :: rest) H a := by
  have h' := h _ fun _ h => h
  unfold wpQuiet at h'
  by_cases hw : Region.wanted o (yielded ops a.tmps) = true
  · rw [if_pos hw] at h'; exact lex_plain hw hp hl hd h'
  · rw [if_neg hw] at h'; exact lex_skip (by simpa using hw) hl hd h'

/-- A value is laid into its slot: by the same step. -/
theorem lex_put [Turns R] {dst : Option Tmp} {v : Value} {type : TypeId} {pos : String}
    (h : ∀ K : Act → Prop, (∀ a', lexAt R P ops w0 n ds F rest H a' → K a') → wpQuiet P ops (fun w' => ∃ x : RW R w0, w' = x.w) K [⟨dst, .move (.const v), type, pos, #[], none⟩] a) : lexAt R P ops w0 n ds F rest H (a.put dst v) := by
  have h' := h _ fun _ h => h
  unfold wpQuiet at h'
  rw [if_pos (by rfl)] at h'
  obtain ⟨u, h1, h2⟩ := h'
  have h3 := h1 w0 ⟨⟨w0, Turns.refl w0⟩, rfl⟩
  obtain rfl : u = v := by
    have : Oper.quietUpon P (fun w' => ∃ x : RW R w0, w' = x.w) w0 u (.ok (.value v) w0) := h3
    exact this.2.symm
  exact h2

/-- An operation that makes memory: its slot is hidden. -/
theorem lex_make {d : Tmp} {r : Held} (hk : r.keeps R) (hw : Region.wanted o (yielded ops a.tmps) = true) (hns : ∀ cs b, o.op ≠ .select cs b) (hl : looksFree ops H o = true) (hd : o.dst = some d)
    (hr : ∀ w, R w0 w → ∃ x w', (execOp a.eval o).run P w = .ok (.value x) w' ∧ R w w' ∧ r x w') (h : lexAt R P ops w0 n ds F rest ((d, r) :: H) a) : lexAt R P ops w0 n ds F (o :: rest) H a := by
  refine ⟨r, hk, fun c w hb hs => .inr ?_, ?_⟩
  · have he := eval_of_fits hl hs
    refine ⟨by rw [wanted_of_fits fun g b t hg ht => he t (guard_looks hg ht)]; exact hw, fun K Q' hK => ?_⟩
    obtain ⟨x, w', h1, h2, h3⟩ := hr w hb
    unfold Oper.wp
    rw [exec_of_fits hns he, h1]
    exact hK _ _ h2 h3
  · have : (fun t => if o.dst = some t then r else fits H a t) = fits ((d, r) :: H) a := by
      funext t
      rw [hd]
      unfold fits
      rw [show heldBy ((d, r) :: H) t = if d = t then some r else heldBy H t from rfl]
      by_cases hdt : d = t
      · simp [hdt]
      · simp [hdt]
    rw [this]
    exact h

/-- A call whose answer is hidden behind a relation. -/
theorem lex_callh {f : FuncId} {args : Array Value} {d : Tmp} {r : Held} (hk : r.keeps R) (hw : Region.wanted o (yielded ops a.tmps) = true) (hns : ∀ cs b, o.op ≠ .select cs b) (hl : looksFree ops H o = true) (hd : o.dst = some d)
    (hr : ∀ w, (execOp a.eval o).run P w = .ok (.enter f args) w) (hc : ∀ w, R w0 w → Calls P f args w fun e w' => ∃ x, e = .returned x ∧ R w w' ∧ r x w')
    (h : lexAt R P ops w0 n ds F rest ((d, r) :: H) a) : lexAt R P ops w0 n ds F (o :: rest) H a := by
  refine ⟨r, hk, fun c w hb hs => .inr ?_, ?_⟩
  · have he := eval_of_fits hl hs
    refine ⟨by rw [wanted_of_fits fun g b t hg ht => he t (guard_looks hg ht)]; exact hw, fun K Q' hK => ?_⟩
    unfold Oper.wp
    rw [exec_of_fits hns he, hr]
    exact (hc w hb).mono fun e w' ⟨x, h1, h2, h3⟩ => by subst h1; exact hK _ _ h2 h3
  · have : (fun t => if o.dst = some t then r else fits H a t) = fits ((d, r) :: H) a := by
      funext t
      rw [hd]
      unfold fits
      rw [show heldBy ((d, r) :: H) t = if d = t then some r else heldBy H t from rfl]
      by_cases hdt : d = t
      · simp [hdt]
      · simp [hdt]
    rw [this]
    exact h

/-- An operation that only reads, by its run. -/
theorem lex_val [Turns R] {v : Value} (hw : Region.wanted o (yielded ops a.tmps) = true) (hns : ∀ cs b, o.op ≠ .select cs b) (hl : looksFree ops H o = true) (hd : writesFree H a o.dst = true)
    (hr : ∀ w, R w0 w → (execOp a.eval o).run P w = .ok (.value v) w) (h : lexAt R P ops w0 n ds F rest H (a.put o.dst v)) : lexAt R P ops w0 n ds F (o :: rest) H a := by
  refine ⟨fun x _ => x = v, fun _ _ _ h _ => h, fun c w hb hs => .inr ?_, by rw [fits_put hd]; exact h⟩
  have he := eval_of_fits hl hs
  refine ⟨by rw [wanted_of_fits fun g b t hg ht => he t (guard_looks hg ht)]; exact hw, fun K Q' hK => ?_⟩
  unfold Oper.wp
  rw [exec_of_fits hns he, hr w hb]
  exact hK _ _ (Turns.refl _) rfl

/-- Any operation, by a proof of its own; its slot is hidden. -/
theorem lex_any {d : Tmp} {r : Held} (hk : r.keeps R) (hs : Serves R P ops w0 o (fits H a) r) (hd : o.dst = some d) (h : lexAt R P ops w0 n ds F rest ((d, r) :: H) a) : lexAt R P ops w0 n ds F (o :: rest) H a := by
  refine ⟨r, hk, hs, ?_⟩
  have : (fun t => if o.dst = some t then r else fits H a t) = fits ((d, r) :: H) a := by
    funext t
    rw [hd]
    unfold fits
    rw [show heldBy ((d, r) :: H) t = if d = t then some r else heldBy H t from rfl]
    by_cases hdt : d = t
    · simp [hdt]
    · simp [hdt]
  rw [this]
  exact h

/-- What is turned out of a hidden slot. -/
theorem lex_turn [Turns R] {d : Tmp} {r : Held} {v : Value} {s t : TypeId} (hw : Region.wanted o (yielded ops a.tmps) = true) (hop : o.op = .convert s t (.tmp d)) (hh : heldBy H d = some r)
    (hl : (match o.guard with | none => true | some (g, _) => match (ops[g]?).bind (·.dst) with | none => true | some t => (heldBy H t).isNone) = true) (hd : writesFree H a o.dst = true)
    (hr : ∀ x w, r x w → (convert s t x).run P w = .ok v w) (h : lexAt R P ops w0 n ds F rest H (a.put o.dst v)) : lexAt R P ops w0 n ds F (o :: rest) H a := by
  refine ⟨fun x _ => x = v, fun _ _ _ h _ => h, fun c w hb hs => .inr ?_, by rw [fits_put hd]; exact h⟩
  refine ⟨?_, fun K Q' hK => ?_⟩
  · rw [wanted_of_fits (a := a) fun g b u hg hu => ?_]
    · exact hw
    · rw [hg] at hl
      simp only [hu] at hl
      have := hs u (guard_looks hg hu)
      unfold fits at this
      cases hh : heldBy H u with
      | none => rw [hh] at this; exact this
      | some q => rw [hh] at hl; cases hl
  · have h1 := hs d (List.mem_append_left _ (by rw [hop]; simp [Op.operands]))
    unfold fits at h1
    rw [hh] at h1
    have h2 := hr _ _ h1
    unfold Oper.wp execOp
    rw [hop]
    simp only []
    have : (do pure (Next.value (← convert s t (c.eval (.tmp d)))) : Sem Next).run P w = .ok (.value v) w := by rw [Sem.run_bind, h2]; rfl
    rw [this]
    exact hK _ _ (Turns.refl _) rfl
end

end Go.Proofs.YtgehgjalkponfaaGreatDoor
