/- A region that draws its order, some of whose operations come in one row (each behind the one before it) and turn the world: phases. The others make memory alone. -/
import Derived.Test.YtgehgjalkponfaaGreatDoorLexg
import Derived.Test.YtgehgjalkponfaaGreatDoorGrow
namespace Go.Proofs.YtgehgjalkponfaaGreatDoor
open Go.RowKit

/-- What holds of the world behind so many operations of the row; how it may turn. -/
structure Phases where
  ph : Nat → World → Prop
  K : World → World → Prop
  w0 : World
  start : ph 0 w0
  refl : ∀ w, K w w
  trans : ∀ {a b c}, K a b → K b c → K a c
  grow : ∀ {a b}, GrowR a b → K a b
  stay : ∀ {q a b}, ph q a → GrowR a b → ph q b

section
variable (S : Phases) (ch : List Nat) (P : Program) (ops : Array Oper)
def PW : Type := { w : World // ∃ q, S.ph q w }
variable {S} in
def PW.w (x : PW S) : World := x.1
instance : Nonempty (PW S) := ⟨⟨S.w0, 0, S.start⟩⟩

def ServesO (o : Oper) (s : Tmp → Held) (r : Held) : Prop :=
  ∀ c w, (∃ q, S.ph q w) → (∀ t ∈ o.looksAt ops, s t (c.eval (.tmp t)) w) →
    (Region.wanted o (yielded ops c.tmps) = false ∧ r undef w) ∨
    (Region.wanted o (yielded ops c.tmps) = true ∧ ∀ Q Q', (∀ x w', GrowR w w' → r x w' → Q (c.put o.dst x) w') → o.wp P c w Q Q')
def ServesC (q : Nat) (o : Oper) (s : Tmp → Held) (r : Held) : Prop :=
  ∀ c w, S.ph q w → (∀ t ∈ o.looksAt ops, s t (c.eval (.tmp t)) w) →
    Region.wanted o (yielded ops c.tmps) = true ∧ ∀ Q Q', (∀ x w', S.K w w' → S.ph (q + 1) w' → r x w' → Q (c.put o.dst x) w') → o.wp P c w Q Q'
def SvC (k : Nat) (o : Oper) (s : Tmp → Held) (r : Held) : Prop :=
  if ch.contains k then ServesC S P ops (ch.idxOf k) o s r else ServesO S P ops o s r
end

/-- One operation behind another, each served as its place asks. -/
def wpLexS (Sv : Nat → Oper → (Tmp → Held) → Held → Prop) (Kp : Held → Prop) (Fin : (Tmp → Held) → Prop) : Nat → List Oper → (Tmp → Held) → Prop
  | _, [], s => Fin s
  | k, o :: rest, s => ∃ r : Held, Kp r ∧ Sv k o s r ∧ wpLexS Sv Kp Fin (k + 1) rest (fun t => if o.dst = some t then r else s t)

theorem wpLexS_get {Sv : Nat → Oper → (Tmp → Held) → Held → Prop} {Kp : Held → Prop} {Fin : (Tmp → Held) → Prop} {ops : Array Oper} (hT : Kp fun _ _ => True) : ∀ (l : List Oper) (k : Nat) (r : Nat → Held) (s0 : Tmp → Held), (∀ j, j < l.length → l[j]? = ops[k + j]?) →
    (∀ j, j < k → Kp (r j)) → (∀ j o, j < k → ops[j]? = some o → Sv j o (slotsBy ops r s0 j) (r j)) → wpLexS Sv Kp Fin k l (slotsBy ops r s0 k) →
    ∃ r' : Nat → Held, (∀ j, Kp (r' j)) ∧ (∀ j o, j < k + l.length → ops[j]? = some o → Sv j o (slotsBy ops r' s0 j) (r' j)) ∧ Fin (slotsBy ops r' s0 (k + l.length))
  | [], k, r, s0, _, h1, h2, h => by
    have hs : ∀ m, m ≤ k → slotsBy ops (fun j => if j < k then r j else fun _ _ => True) s0 m = slotsBy ops r s0 m := by
      intro m
      induction m with
      | zero => intro _; rfl
      | succ m ih =>
        intro hm
        funext t
        unfold slotsBy
        rw [ih (by omega), if_pos (show m < k by omega)]
    refine ⟨fun j => if j < k then r j else fun _ _ => True, fun j => ?_, fun j o hj ho => ?_, ?_⟩
    · by_cases hj : j < k
      · simp only [hj, if_true]; exact h1 j hj
      · simp only [hj, if_false]; exact hT
    · have hj : j < k := by simpa using hj
      simp only [hj, if_true]
      rw [hs j (by omega)]
      exact h2 j o hj ho
    · rw [List.length_nil, Nat.add_zero, hs k (Nat.le_refl _)]
      exact h
  | o :: rest, k, r, s0, hl, h1, h2, h => by
    obtain ⟨q, hq, hsv, hrest⟩ := h
    have ho : ops[k]? = some o := by simpa using (hl 0 (by simp)).symm
    have hs : ∀ m, m ≤ k → slotsBy ops (fun j => if j = k then q else r j) s0 m = slotsBy ops r s0 m := by
      intro m
      induction m with
      | zero => intro _; rfl
      | succ m ih =>
        intro hm
        funext t
        unfold slotsBy
        rw [ih (by omega), if_neg (show m ≠ k by omega)]
    have := wpLexS_get hT rest (k + 1) (fun j => if j = k then q else r j) s0 (fun j hj => by have := hl (j + 1) (by simp; omega); simpa [Nat.add_assoc, Nat.add_comm 1 j] using this)
      (fun j hj => by
        by_cases hjk : j = k
        · simp only [hjk, if_true]; exact hq
        · simp only [hjk, if_false]; exact h1 j (by omega))
      (fun j p hj hp => by
        rw [hs j (by omega)]
        by_cases hjk : j = k
        · subst hjk
          simp only [if_true]
          rw [hp] at ho; cases ho
          exact hsv
        · simp only [hjk, if_false]; exact h2 j p (by omega) hp)
      (by
        have : slotsBy ops (fun j => if j = k then q else r j) s0 (k + 1) = fun t => if o.dst = some t then q else slotsBy ops r s0 k t := by
          funext t
          show (if (ops[k]?).bind (·.dst) = some t then _ else _) = _
          rw [hs k (Nat.le_refl _), ho]
          simp
        rw [this]
        exact hrest)
    rwa [show k + 1 + rest.length = k + (o :: rest).length by simp; omega] at this

/-- The row: each of its operations waits for the one before it. -/
def chainB (ops : Array Oper) (ch : List Nat) : Bool :=
  decide ch.Nodup && (List.range (ch.length - 1)).all fun i => match ops[ch.getD (i + 1) 0]? with
    | none => false
    | some p => p.after.toList.any fun e => Region.binds .any e && decide (e.on = ch.getD i 0)
theorem chain_of {ops : Array Oper} {ch : List Nat} (h : chainB ops ch = true) : ch.Nodup ∧ ∀ i, i + 1 < ch.length → ∃ p, ops[ch.getD (i + 1) 0]? = some p ∧ ∃ e ∈ p.after, Region.binds .any e = true ∧ e.on = ch.getD i 0 := by
  unfold chainB at h
  rw [Bool.and_eq_true, decide_eq_true_eq, List.all_eq_true] at h
  refine ⟨h.1, fun i hi => ?_⟩
  have := h.2 i (List.mem_range.2 (by omega))
  cases hp : ops[ch.getD (i + 1) 0]? with
  | none => rw [hp] at this; cases this
  | some p =>
    rw [hp] at this
    simp only [List.any_eq_true, Bool.and_eq_true, decide_eq_true_eq] at this
    obtain ⟨e, he, hb⟩ := this
    exact ⟨p, rfl, e, Array.mem_toList_iff.1 he, hb.1, hb.2⟩

/-- How far the row has come. -/
def Phase (S : Phases) (ch : List Nat) (listed : Array Bool) (w : World) : Prop :=
  ∃ q, q ≤ ch.length ∧ (∀ i, i < q → listed.getD (ch.getD i 0) false = true) ∧ (∀ i, q ≤ i → i < ch.length → listed.getD (ch.getD i 0) true = false) ∧ S.ph q w

section
variable {S : Phases} {ch : List Nat} {P : Program} {ops : Array Oper} {n m : Nat} {r : Nat → Held} {a : Act}
theorem turnsK (S : Phases) : Turns S.K := ⟨S.refl, S.trans, fun w => S.grow (Turns.drew (R := GrowR) w)⟩

theorem Phase.other {listed : Array Bool} {w w' : World} {i : Nat} (h : Phase S ch listed w) (hi : i ∉ ch) (hw : GrowR w w') : Phase S ch (listed.setIfInBounds i true) w' := by
  obtain ⟨q, hq, h1, h2, h3⟩ := h
  refine ⟨q, hq, fun j hj => getD_set_true (h1 j hj), fun j hj hl => ?_, S.stay h3 hw⟩
  have hne : i ≠ ch.getD j 0 := fun e => hi (by rw [e, List.getD_eq_getElem?_getD, List.getElem?_eq_getElem hl]; exact List.getElem_mem hl)
  rw [getD_set_ne true hne]
  exact h2 j hj hl
theorem getD_clash {l : Array Bool} {i : Nat} (h1 : l.getD i false = true) (h2 : l.getD i true = false) : False := by
  have := getD_lt h1
  simp [this] at h1 h2
  rw [h1] at h2
  cases h2
theorem Phase.here {listed : Array Bool} {w : World} {i q0 : Nat} (hC : chainB ops ch = true) (h : Phase S ch listed w) (hq0 : ch[q0]? = some i) (hi : i ∈ Region.ready .any ops listed) :
    (∀ i, i < q0 → listed.getD (ch.getD i 0) false = true) ∧ (∀ i, q0 ≤ i → i < ch.length → listed.getD (ch.getD i 0) true = false) ∧ S.ph q0 w := by
  obtain ⟨q, hq, h1, h2, h3⟩ := h
  obtain ⟨hnd, hch⟩ := chain_of hC
  have hl0 : q0 < ch.length := (List.getElem?_eq_some_iff.1 hq0).1
  have hg0 : ch.getD q0 0 = i := by rw [List.getD_eq_getElem?_getD, hq0]; rfl
  obtain ⟨hun, o, ho, hall⟩ := mem_ready.1 hi
  have e : q = q0 := by
    rcases Nat.lt_trichotomy q q0 with hlt | heq | hgt
    · obtain ⟨p, hp, e, he, hb, hon⟩ := hch (q0 - 1) (by omega)
      rw [show q0 - 1 + 1 = q0 by omega, hg0, ho] at hp
      cases hp
      have h4 := hall e he hb
      rw [hon] at h4
      exact (getD_clash h4 (h2 (q0 - 1) (by omega) (by omega))).elim
    · exact heq
    · have h4 := h1 q0 hgt
      rw [hg0] at h4
      exact (getD_clash h4 hun).elim
  subst e
  exact ⟨h1, h2, h3⟩
theorem Phase.next {listed : Array Bool} {w w' : World} {i q0 : Nat} (hC : chainB ops ch = true) (h : Phase S ch listed w) (hq0 : ch[q0]? = some i) (hi : i ∈ Region.ready .any ops listed) (hil : i < listed.size) (hw : S.ph (q0 + 1) w') : Phase S ch (listed.setIfInBounds i true) w' := by
  obtain ⟨h1, h2, h3⟩ := h.here hC hq0 hi
  obtain ⟨hnd, _⟩ := chain_of hC
  have hl0 : q0 < ch.length := (List.getElem?_eq_some_iff.1 hq0).1
  have hg0 : ch.getD q0 0 = i := by rw [List.getD_eq_getElem?_getD, hq0]; rfl
  refine ⟨q0 + 1, by omega, fun j hj => ?_, fun j hj hl => ?_, hw⟩
  · rcases (show j < q0 ∨ j = q0 by omega) with hlt | rfl
    · exact getD_set_true (h1 j hlt)
    · rw [hg0]; exact getD_set_self hil
  · have hne : i ≠ ch.getD j 0 := fun e => by
      have h5 : ch[j]? = ch[q0]? := by
        rw [hq0, e, List.getD_eq_getElem?_getD, List.getElem?_eq_getElem hl]; rfl
      have := (List.getElem?_inj hl hnd).1 h5
      omega
    rw [getD_set_ne true hne]
    exact h2 j (by omega) hl

theorem servC {i : Nat} {o : Oper} {s : Tmp → Held} (h : SvC S ch P ops i o s (r i)) : (i ∉ ch ∧ ServesO S P ops o s (r i)) ∨ ∃ q, ch[q]? = some i ∧ ServesC S P ops q o s (r i) := by
  unfold SvC at h
  by_cases hi : i ∈ ch
  · rw [if_pos (by simpa using hi)] at h
    exact .inr ⟨ch.idxOf i, by rw [List.getElem?_eq_getElem (List.idxOf_lt_length_of_mem hi), List.getElem_idxOf], h⟩
  · rw [if_neg (by simpa using hi)] at h
    exact .inl ⟨hi, h⟩

theorem wpAny_C (hC : chainB ops ch = true) (hF : Formed ops n) (hn : a.tmps.size = n) (hk : ∀ k, (r k).keeps S.K) (hS : ∀ i o, ops[i]? = some o → SvC S ch P ops i o (slotsBy ops r (fun t x _ => x = a.eval (.tmp t)) i) (r i))
    {Q : Exit → Act → World → Prop}
    (hQ : ∀ c w, S.K S.w0 w → S.ph ch.length w → c.tmps.size = a.tmps.size → c.defers = a.defers → (∀ t, slotsBy ops r (fun t x _ => x = a.eval (.tmp t)) ops.size t (c.eval (.tmp t)) w) → Q .normal c w) (hch : ∀ j ∈ ch, j < ops.size) :
    ∀ (fuel : Nat) (listed : Array Bool) (c : Act) (w : World), listed.toList.count false ≤ fuel → Along S.K ops r S.w0 a listed c w → Phase S ch listed w → wpAny P .any ops Q fuel listed c w := by
  haveI := turnsK S
  have hend : ∀ (listed : Array Bool) (c : Act) (w : World), Along S.K ops r S.w0 a listed c w → Phase S ch listed w → Region.ready .any ops listed = [] → Q .normal c w := fun listed c w h hp h0 => by
    have hall := all_listed hF h.size h0
    have hph : S.ph ch.length w := by
      obtain ⟨q, hq, h1, h2, h3⟩ := hp
      have e : q = ch.length := by
        rcases Nat.lt_or_ge q ch.length with hlt | hge
        · exfalso
          have hm : ch.getD q 0 ∈ ch := by rw [List.getD_eq_getElem?_getD, List.getElem?_eq_getElem hlt]; exact List.getElem_mem hlt
          exact getD_clash (hall _ (hch _ hm)) (h2 q (Nat.le_refl _) hlt)
        · omega
      exact e ▸ h3
    refine hQ c w h.below hph h.frame h.defers fun t => ?_
    by_cases hex : ∃ (j : Nat) (p : Oper), ops[j]? = some p ∧ p.dst = some t
    · obtain ⟨j, p, hp, hd⟩ := hex
      rw [slotsBy_of hF (lt_of_some hp) hp hd]
      exact h.done j p t hp (hall j (lt_of_some hp)) hd
    · rw [slotsBy_none fun j hj hd => hex ⟨j, by
        cases hp : ops[j]? with
        | none => rw [hp] at hd; cases hd
        | some p => rw [hp] at hd; exact ⟨p, rfl, hd⟩⟩]
      exact h.rest t fun j p hp _ hd => hex ⟨j, p, hp, hd⟩
  intro fuel
  induction fuel with
  | zero =>
    intro listed c w hc h hp
    have h0 : Region.ready .any ops listed = [] := by
      cases hr : Region.ready .any ops listed with
      | nil => rfl
      | cons i l =>
        have hi : i ∈ Region.ready .any ops listed := by rw [hr]; exact List.mem_cons_self
        obtain ⟨hun, o, ho, _⟩ := mem_ready.1 hi
        have hil : i < listed.size := by rw [h.size]; exact lt_of_some ho
        have := count_set hil hun
        omega
    exact ⟨h0, hend _ _ _ h hp h0⟩
  | succ fuel ih =>
    intro listed c w hc h hp
    refine ⟨hend _ _ _ h hp, fun i hi => ?_⟩
    obtain ⟨hun, o, ho, _⟩ := mem_ready.1 hi
    have hil : i < listed.size := by rw [h.size]; exact lt_of_some ho
    have hcnt := count_set hil hun
    unfold wpOp
    rw [ho]
    simp only []
    rcases servC (hS i o ho) with ⟨hni, hs⟩ | ⟨q, hq, hs⟩
    · have hex : ∃ q, S.ph q w := by obtain ⟨q, _, _, _, h3⟩ := hp; exact ⟨q, h3⟩
      rcases hs c w hex (h.looks hF ho hi) with ⟨h1, h2⟩ | ⟨h1, h2⟩
      · rw [h1]
        exact ih _ _ _ (by omega) (h.step hF hn hk ho hi (S.refl w) h2) (hp.other hni (Turns.refl w))
      · rw [h1]
        exact .inl (h2 _ _ fun x w' hb hr => ih _ _ _ (by omega) (h.step hF hn hk ho hi (S.grow hb) hr) (hp.other hni hb))
    · obtain ⟨h1, h2⟩ := hs c w (hp.here hC hq hi).2.2 (h.looks hF ho hi)
      rw [h1]
      exact .inl (h2 _ _ fun x w' hb hp' hr => ih _ _ _ (by omega) (h.step hF hn hk ho hi hb hr) (hp.next hC hq hi hil hp'))

theorem wpAny_ledC (hC : chainB ops ch = true) (hF : Formed ops n) (hn : a.tmps.size = n) (hk : ∀ k, (r k).keeps S.K) (hsz : ops.size = m + 1) (hl : ∀ j, j < m → ∃ k p, j < k ∧ ops[k]? = some p ∧ ∃ e ∈ p.after, Region.binds .any e = true ∧ e.on = j)
    (hS : ∀ i o, i < m → ops[i]? = some o → SvC S ch P ops i o (slotsBy ops r (fun t x _ => x = a.eval (.tmp t)) i) (r i)) {Q : Exit → Act → World → Prop}
    (hQ : ∀ c w, S.K S.w0 w → S.ph ch.length w → c.tmps.size = a.tmps.size → c.defers = a.defers → (∀ t, slotsBy ops r (fun t x _ => x = a.eval (.tmp t)) m t (c.eval (.tmp t)) w) → wpOp P ops Q m (Q .normal) c w) (hch : ∀ j ∈ ch, j < m) :
    ∀ (fuel : Nat) (listed : Array Bool) (c : Act) (w : World), listed.toList.count false ≤ fuel → Along S.K ops r S.w0 a listed c w → Phase S ch listed w → listed.getD m true = false → wpAny P .any ops Q fuel listed c w := by
  haveI := turnsK S
  have hnot : ∀ (listed : Array Bool) (c : Act) (w : World), Along S.K ops r S.w0 a listed c w → listed.getD m true = false → Region.ready .any ops listed ≠ [] := fun listed c w h hm h0 => by
    have := all_listed hF h.size h0 m (by omega)
    exact getD_clash this hm
  intro fuel
  induction fuel with
  | zero =>
    intro listed c w hc h hp hm
    exfalso
    have hml : m < listed.size := by rw [h.size]; omega
    have := count_set hml hm
    omega
  | succ fuel ih =>
    intro listed c w hc h hp hm
    refine ⟨fun h0 => absurd h0 (hnot _ _ _ h hm), fun i hi => ?_⟩
    obtain ⟨hun, o, ho, _⟩ := mem_ready.1 hi
    have hil : i < listed.size := by rw [h.size]; exact lt_of_some ho
    have hcnt := count_set hil hun
    by_cases him : i = m
    · subst him
      have hall := led_all hsz hl h hi
      have hph : S.ph ch.length w := by
        obtain ⟨q, hq, h1, h2, h3⟩ := hp
        have e : q = ch.length := by
          rcases Nat.lt_or_ge q ch.length with hlt | hge
          · exfalso
            have hm : ch.getD q 0 ∈ ch := by rw [List.getD_eq_getElem?_getD, List.getElem?_eq_getElem hlt]; exact List.getElem_mem hlt
            have hlt2 := hch _ hm
            exact getD_clash (hall (i - 1 - ch.getD q 0) _ (by omega)) (h2 q (Nat.le_refl _) hlt)
          · omega
        exact e ▸ h3
      have hfit : ∀ t, slotsBy ops r (fun t x _ => x = a.eval (.tmp t)) i t (c.eval (.tmp t)) w := fun t => by
        by_cases hex : ∃ (j : Nat) (p : Oper), j < i ∧ ops[j]? = some p ∧ p.dst = some t
        · obtain ⟨j, p, hji, hp, hd⟩ := hex
          rw [slotsBy_of hF hji hp hd]
          exact h.done j p t hp (hall (i - 1 - j) j (by omega)) hd
        · rw [slotsBy_none fun j hj hd => hex ⟨j, by
            cases hp : ops[j]? with
            | none => rw [hp] at hd; cases hd
            | some p => rw [hp] at hd; exact ⟨p, hj, rfl, hd⟩⟩]
          refine h.rest t fun j p hp hj hd => hex ⟨j, p, ?_, hp, hd⟩
          have hjs := lt_of_some hp
          have hne : j ≠ i := fun e => by
            subst e
            exact getD_clash hj hun
          omega
      refine wpOp_mono (fun c' w' hq => ?_) (hQ c w h.below hph h.frame h.defers hfit)
      have hempty : Region.ready .any ops (listed.setIfInBounds i true) = [] := by
        cases hr : Region.ready .any ops (listed.setIfInBounds i true) with
        | nil => rfl
        | cons k l =>
          exfalso
          have hk' : k ∈ Region.ready .any ops (listed.setIfInBounds i true) := by rw [hr]; exact List.mem_cons_self
          obtain ⟨hku, p, hp, _⟩ := mem_ready.1 hk'
          have hks := lt_of_some hp
          have hkl : (listed.setIfInBounds i true).getD k false = true := by
            by_cases hki : k = i
            · subst hki; exact getD_set_self hil
            · exact getD_set_true (hall (i - 1 - k) k (by omega))
          exact getD_clash hkl hku
      cases fuel with
      | zero => exact ⟨hempty, hq⟩
      | succ fuel => exact ⟨fun _ => hq, fun k hk => by rw [hempty] at hk; cases hk⟩
    · have hlt : i < m := by have := lt_of_some ho; omega
      have hm' : (listed.setIfInBounds i true).getD m true = false := by rw [getD_set_ne true him]; exact hm
      unfold wpOp
      rw [ho]
      simp only []
      rcases servC (hS i o hlt ho) with ⟨hni, hs⟩ | ⟨q, hq, hs⟩
      · have hex : ∃ q, S.ph q w := by obtain ⟨q, _, _, _, h3⟩ := hp; exact ⟨q, h3⟩
        rcases hs c w hex (h.looks hF ho hi) with ⟨h1, h2⟩ | ⟨h1, h2⟩
        · rw [h1]
          exact ih _ _ _ (by omega) (h.step hF hn hk ho hi (S.refl w) h2) (hp.other hni (Turns.refl w)) hm'
        · rw [h1]
          exact .inl (h2 _ _ fun x w' hb hr => ih _ _ _ (by omega) (h.step hF hn hk ho hi (S.grow hb) hr) (hp.other hni hb) hm')
      · obtain ⟨h1, h2⟩ := hs c w (hp.here hC hq hi).2.2 (h.looks hF ho hi)
        rw [h1]
        exact .inl (h2 _ _ fun x w' hb hp' hr => ih _ _ _ (by omega) (h.step hF hn hk ho hi hb hr) (hp.next hC hq hi hil hp') hm')
end

/-- The walk at a frame, at an operation's place. -/
def lexAtC (S : Phases) (ch : List Nat) (P : Program) (ops : Array Oper) (n : Nat) (ds : List Deferred) (F : Act → World → Prop) (k : Nat) (l : List Oper) (H : List (Tmp × Held)) (a : Act) : Prop :=
  wpLexS (SvC S ch P ops) (fun r => r.keeps S.K) (fun s => ∀ c w', S.K S.w0 w' → S.ph ch.length w' → c.tmps.size = n → c.defers = ds → (∀ t, s t (c.eval (.tmp t)) w') → F c w') k l (fits H a)

section
variable {P : Program} {id : Nat} {Q : Exit → Act → World → Prop} {a : Act} {w : World} {l : List Oper}
/-- A region with a row. -/
theorem wp_region_C (S : Phases) (ch : List Nat) (hw : S.w0 = w) (hm : P.follows .mixedOrders = true) (hB : formedB l.toArray a.tmps.size = true) (hC : chainB l.toArray ch = true) (hch : ch.all (fun j => decide (j < l.length)) = true)
    (h : lexAtC S ch P l.toArray a.tmps.size a.defers (Q .normal) 0 l [] a) : (Code.region id l.toArray true).wp P Q a w := by
  subst hw
  obtain ⟨r, h1, h2, h3⟩ := wpLexS_get (ops := l.toArray) (Kp := fun r => r.keeps S.K) (fun _ _ _ _ _ => trivial) l 0 (fun _ _ _ => True) (fun t x _ => x = a.eval (.tmp t)) (fun j _ => by simp) (fun j hj => by omega) (fun j _ hj => by omega) h
  refine wp_region_any hm ?_
  have hF := formed_of hB
  have hch' : ∀ j ∈ ch, j < l.toArray.size := fun j hj => by simpa using List.all_eq_true.1 hch j hj
  refine wpAny_C hC hF rfl h1 (fun i o ho => h2 i o (by have := lt_of_some ho; simpa using this) ho) (fun c w' hb hp hs hd ht => h3 c w' hb hp hs hd (by simpa using ht)) hch' _ _ _ _ ?_ ⟨by simp, fun j p hp hj => ?_, fun j p t hp hj => ?_, fun _ _ => rfl, rfl, rfl, S.grow (Turns.drew (R := GrowR) S.w0)⟩
    ⟨0, Nat.zero_le _, fun i hi => by omega, fun i _ hi => ?_, S.stay S.start (Turns.drew (R := GrowR) S.w0)⟩
  · rw [Array.toList_replicate]; exact Nat.le_trans List.count_le_length (by simp)
  · rw [replicate_getD] at hj; cases hj
  · rw [replicate_getD] at hj; cases hj
  · have hm : ch.getD i 0 ∈ ch := by rw [List.getD_eq_getElem?_getD, List.getElem?_eq_getElem hi]; exact List.getElem_mem hi
    have := hch' _ hm
    rw [Array.getD_eq_getD_getElem?, Array.getElem?_replicate, if_pos (by simpa using this)]; rfl

/-- A region with a row, and a last operation that all others lead to. -/
theorem wp_region_ledC (S : Phases) (ch : List Nat) {oL : Oper} (hw : S.w0 = w) (hm : P.follows .mixedOrders = true) (hB : formedB l.toArray a.tmps.size = true) (hL : l.getLast? = some oL) (hD : ledB l.toArray (l.length - 1) = true) (hC : chainB l.toArray ch = true) (hch : ch.all (fun j => decide (j < l.length - 1)) = true)
    (h : lexAtC S ch P l.toArray a.tmps.size a.defers (fun c w' => wpList P l.toArray Q [oL] c w') 0 l.dropLast [] a) : (Code.region id l.toArray true).wp P Q a w := by
  subst hw
  have hF := formed_of hB
  obtain ⟨hsz, hl⟩ := led_of hD
  have hlen : l.length = (l.length - 1) + 1 := by simpa using hsz
  obtain ⟨r, h1, h2, h3⟩ := wpLexS_get (ops := l.toArray) (Kp := fun r => r.keeps S.K) (fun _ _ _ _ _ => trivial) l.dropLast 0 (fun _ _ _ => True) (fun t x _ => x = a.eval (.tmp t)) (fun j hj => by
    rw [List.length_dropLast] at hj
    rw [List.getElem?_dropLast, Nat.zero_add]; simp [hj]) (fun j hj => by omega) (fun j _ hj => by omega) h
  rw [List.length_dropLast, Nat.zero_add] at h2 h3
  refine wp_region_any hm ?_
  have hlast : l.toArray[l.length - 1]? = some oL := by rw [← hL, List.getLast?_eq_getElem?]; simp
  have hch' : ∀ j ∈ ch, j < l.length - 1 := fun j hj => by simpa using List.all_eq_true.1 hch j hj
  refine wpAny_ledC hC hF rfl h1 hsz hl h2 (fun c w' hb hp hs hd ht => ?_) hch' _ _ _ _ ?_ ⟨by simp, fun j p hp hj => ?_, fun j p t hp hj => ?_, fun _ _ => rfl, rfl, rfl, S.grow (Turns.drew (R := GrowR) S.w0)⟩
    ⟨0, Nat.zero_le _, fun i hi => by omega, fun i _ hi => ?_, S.stay S.start (Turns.drew (R := GrowR) S.w0)⟩ ?_
  · have := h3 c w' hb hp hs hd ht
    unfold wpOp
    rw [hlast]
    exact this
  · rw [Array.toList_replicate]; exact Nat.le_trans List.count_le_length (by simp)
  · rw [replicate_getD] at hj; cases hj
  · rw [replicate_getD] at hj; cases hj
  · have hm : ch.getD i 0 ∈ ch := by rw [List.getD_eq_getElem?_getD, List.getElem?_eq_getElem hi]; exact List.getElem_mem hi
    have := hch' _ hm
    rw [Array.getD_eq_getD_getElem?, Array.getElem?_replicate, if_pos (by rw [List.size_toArray]; omega)]; rfl
  · rw [Array.getD_eq_getD_getElem?, Array.getElem?_replicate, if_pos (by rw [List.size_toArray]; omega)]; rfl
end

section
variable {S : Phases} {ch : List Nat} {P : Program} {ops : Array Oper} {n k : Nat} {ds : List Deferred} {F : Act → World → Prop} {rest : List Oper} {H : List (Tmp × Held)} {a : Act} {o : Oper}
theorem lexc_nil (h1 : a.tmps.size = n) (h2 : a.defers = ds) (h0 : apartB H = true) (h : ∀ w', S.K S.w0 w' → S.ph ch.length w' → hideAll H a w' (fun c => F c w')) : lexAtC S ch P ops n ds F k [] H a := by
  intro c w' hb hp hs hd ht
  exact hideAll_use H a w' _ h0 (h w' hb hp) c (hs.trans h1.symm) (hd.trans h2.symm) ht
theorem fits_hide {d : Tmp} {r : Held} (hd : o.dst = some d) : (fun t => if o.dst = some t then r else fits H a t) = fits ((d, r) :: H) a := by
  funext t
  rw [hd]
  unfold fits
  rw [show heldBy ((d, r) :: H) t = if d = t then some r else heldBy H t from rfl]
  by_cases hdt : d = t
  · simp [hdt]
  · simp [hdt]
theorem svO {r : Held} {s : Tmp → Held} (hi : ch.contains k = false) (h : ServesO S P ops o s r) : SvC S ch P ops k o s r := by
  unfold SvC
  rw [if_neg (by rw [hi]; simp)]
  exact h
theorem svQ {q : Nat} {r : Held} {s : Tmp → Held} (hi : ch.contains k = true) (hq : ch.idxOf k = q) (h : ServesC S P ops q o s r) : SvC S ch P ops k o s r := by
  unfold SvC
  rw [if_pos hi, hq]
  exact h
theorem lexc_skip (hi : ch.contains k = false) (hw : Region.wanted o (yielded ops a.tmps) = false) (hl : looksFree ops H o = true) (hd : writesFree H a o.dst = true) (h : lexAtC S ch P ops n ds F (k + 1) rest H (a.put o.dst undef)) : lexAtC S ch P ops n ds F k (o :: rest) H a := by
  refine ⟨fun x _ => x = undef, fun _ _ _ h _ => h, svO hi fun c w hb hs => .inl ⟨?_, rfl⟩, ?_⟩
  · rw [wanted_of_fits fun g b t hg ht => eval_of_fits hl hs t (guard_looks hg ht)]; exact hw
  · rw [fits_put hd]; exact h
theorem lexc_plain (hi : ch.contains k = false) (hw : Region.wanted o (yielded ops a.tmps) = true) (hp : plainOp o.op = true) (hl : looksFree ops H o = true) (hd : writesFree H a o.dst = true)
    (h : o.quiet P a (fun w' => ∃ x : PW S, w' = x.w) (fun a' => lexAtC S ch P ops n ds F (k + 1) rest H a')) : lexAtC S ch P ops n ds F k (o :: rest) H a := by
  obtain ⟨v, h1, h2⟩ := h
  refine ⟨fun x _ => x = v, fun _ _ _ h _ => h, svO hi fun c w hb hs => .inr ?_, by rw [fits_put hd]; exact h2⟩
  have he := eval_of_fits hl hs
  refine ⟨by rw [wanted_of_fits fun g b t hg ht => he t (guard_looks hg ht)]; exact hw, fun K Q' hK => ?_⟩
  have h3 := h1 w ⟨⟨w, hb⟩, rfl⟩
  have hne : ∀ w' f args, (execOp a.eval o).run P w ≠ .ok (.enter f args) w' := fun w' f args => plain_not_enter hp a.eval w w' f args
  unfold Oper.quietAt at h3
  unfold Oper.wp
  rw [exec_of_fits (fun cs b e => by rw [e] at hp; cases hp) he]
  generalize (execOp a.eval o).run P w = res at *
  cases res with
  | ok m w' =>
    cases m <;> simp only [Oper.quietUpon] at h3 <;> simp only [Oper.upon]
    case value u =>
      obtain ⟨rfl, rfl⟩ := h3
      exact hK _ _ (Turns.refl _) rfl
    case skip =>
      obtain ⟨rfl, rfl⟩ := h3
      exact hK _ _ (Turns.refl _) rfl
    case enter f args => exact absurd rfl (hne _ _ _)
  | halt x w' => simp only [Oper.quietUpon] at h3
theorem lexc_one (hi : ch.contains k = false) (hp : plainOp o.op = true) (hl : looksFree ops H o = true) (hd : writesFree H a o.dst = true)
    (h : ∀ K : Act → Prop, (∀ a', lexAtC S ch P ops n ds F (k + 1) rest H a' → K a') → wpQuiet P ops (fun w' => ∃ x : PW S, w' = x.w) K [o] a) : lexAtC S ch P ops n ds F k (o :: rest) H a := by
  have h' := h _ fun _ h => h
  unfold wpQuiet at h'
  by_cases hw : Region.wanted o (yielded ops a.tmps) = true
  · rw [if_pos hw] at h'; exact lexc_plain hi hw hp hl hd h'
  · rw [if_neg hw] at h'; exact lexc_skip hi (by simpa using hw) hl hd h'
theorem lexc_none (hi : ch.contains k = false) (hw : Region.wanted o (yielded ops a.tmps) = false) (hl : looksFree ops H o = true) (hd : writesFree H a o.dst = true)
    (h : ∀ K : Act → Prop, (∀ a', lexAtC S ch P ops n ds F (k + 1) rest H a' → K a') → wpQuiet P ops (fun w' => ∃ x : PW S, w' = x.w) K [o] a) : lexAtC S ch P ops n ds F k (o :: rest) H a := by
  have h' := h _ fun _ h => h
  unfold wpQuiet at h'
  rw [if_neg (by simp [hw])] at h'
  exact lexc_skip hi hw hl hd h'
/-- A value is laid into its slot: by the same step. -/
theorem lexc_put {dst : Option Tmp} {v : Value} {type : TypeId} {pos : String}
    (h : ∀ K : Act → Prop, (∀ a', lexAtC S ch P ops n ds F k rest H a' → K a') → wpQuiet P ops (fun w' => ∃ x : PW S, w' = x.w) K [⟨dst, .move (.const v), type, pos, #[], none⟩] a) : lexAtC S ch P ops n ds F k rest H (a.put dst v) := by
  have h' := h _ fun _ h => h
  unfold wpQuiet at h'
  rw [if_pos (by rfl)] at h'
  obtain ⟨u, h1, h2⟩ := h'
  have h3 := h1 S.w0 ⟨⟨S.w0, 0, S.start⟩, rfl⟩
  obtain rfl : u = v := by
    have : Oper.quietUpon P (fun w' => ∃ x : PW S, w' = x.w) S.w0 u (.ok (.value v) S.w0) := h3
    exact this.2.symm
  exact h2
theorem lexc_val {v : Value} (hi : ch.contains k = false) (hw : Region.wanted o (yielded ops a.tmps) = true) (hns : ∀ cs b, o.op ≠ .select cs b) (hl : looksFree ops H o = true) (hd : writesFree H a o.dst = true)
    (hr : ∀ w, (∃ q, S.ph q w) → (execOp a.eval o).run P w = .ok (.value v) w) (h : lexAtC S ch P ops n ds F (k + 1) rest H (a.put o.dst v)) : lexAtC S ch P ops n ds F k (o :: rest) H a := by
  refine ⟨fun x _ => x = v, fun _ _ _ h _ => h, svO hi fun c w hb hs => .inr ?_, by rw [fits_put hd]; exact h⟩
  have he := eval_of_fits hl hs
  refine ⟨by rw [wanted_of_fits fun g b t hg ht => he t (guard_looks hg ht)]; exact hw, fun K Q' hK => ?_⟩
  unfold Oper.wp
  rw [exec_of_fits hns he, hr w hb]
  exact hK _ _ (Turns.refl _) rfl
/-- An operation that makes memory: its slot is hidden. -/
theorem lexc_make {d : Tmp} {r : Held} (hi : ch.contains k = false) (hk : r.keeps S.K) (hw : Region.wanted o (yielded ops a.tmps) = true) (hns : ∀ cs b, o.op ≠ .select cs b) (hl : looksFree ops H o = true) (hd : o.dst = some d)
    (hr : ∀ w, (∃ q, S.ph q w) → ∃ x w', (execOp a.eval o).run P w = .ok (.value x) w' ∧ GrowR w w' ∧ r x w') (h : lexAtC S ch P ops n ds F (k + 1) rest ((d, r) :: H) a) : lexAtC S ch P ops n ds F k (o :: rest) H a := by
  refine ⟨r, hk, svO hi fun c w hb hs => .inr ?_, by rw [fits_hide hd]; exact h⟩
  have he := eval_of_fits hl hs
  refine ⟨by rw [wanted_of_fits fun g b t hg ht => he t (guard_looks hg ht)]; exact hw, fun K Q' hK => ?_⟩
  obtain ⟨x, w', h1, h2, h3⟩ := hr w hb
  unfold Oper.wp
  rw [exec_of_fits hns he, h1]
  exact hK _ _ h2 h3
/-- A call that makes memory alone. -/
theorem lexc_call {f : FuncId} {args : Array Value} {v : Value} (hi : ch.contains k = false) (hw : Region.wanted o (yielded ops a.tmps) = true) (hns : ∀ cs b, o.op ≠ .select cs b) (hl : looksFree ops H o = true) (hd : writesFree H a o.dst = true)
    (hr : ∀ w, (execOp a.eval o).run P w = .ok (.enter f args) w) (hc : ∀ w, (∃ q, S.ph q w) → Calls P f args w fun e w' => e = .returned v ∧ GrowR w w')
    (h : lexAtC S ch P ops n ds F (k + 1) rest H (a.put o.dst v)) : lexAtC S ch P ops n ds F k (o :: rest) H a := by
  refine ⟨fun x _ => x = v, fun _ _ _ h _ => h, svO hi fun c w hb hs => .inr ?_, by rw [fits_put hd]; exact h⟩
  have he := eval_of_fits hl hs
  refine ⟨by rw [wanted_of_fits fun g b t hg ht => he t (guard_looks hg ht)]; exact hw, fun K Q' hK => ?_⟩
  unfold Oper.wp
  rw [exec_of_fits hns he, hr]
  exact (hc w hb).mono fun e w' ⟨h1, h2⟩ => by subst h1; exact hK _ _ h2 rfl
/-- A call of the row. -/
theorem lexc_row (q : Nat) {f : FuncId} {args : Array Value} {v : Value} (hi : ch.contains k = true) (hq : ch.idxOf k = q) (hw : Region.wanted o (yielded ops a.tmps) = true) (hns : ∀ cs b, o.op ≠ .select cs b) (hl : looksFree ops H o = true) (hd : writesFree H a o.dst = true)
    (hr : ∀ w, (execOp a.eval o).run P w = .ok (.enter f args) w) (hc : ∀ w, S.ph q w → Calls P f args w fun e w' => e = .returned v ∧ S.K w w' ∧ S.ph (q + 1) w')
    (h : lexAtC S ch P ops n ds F (k + 1) rest H (a.put o.dst v)) : lexAtC S ch P ops n ds F k (o :: rest) H a := by
  refine ⟨fun x _ => x = v, fun _ _ _ h _ => h, svQ hi hq fun c w hb hs => ?_, by rw [fits_put hd]; exact h⟩
  have he := eval_of_fits hl hs
  refine ⟨by rw [wanted_of_fits fun g b t hg ht => he t (guard_looks hg ht)]; exact hw, fun K Q' hK => ?_⟩
  unfold Oper.wp
  rw [exec_of_fits hns he, hr]
  exact (hc w hb).mono fun e w' ⟨h1, h2, h3⟩ => by subst h1; exact hK _ _ h2 h3 rfl
/-- Any operation of the row, by a proof of its own; its slot is hidden. -/
theorem lexc_rowh (q : Nat) {d : Tmp} {r : Held} (hi : ch.contains k = true) (hq : ch.idxOf k = q) (hk : r.keeps S.K) (hs : ServesC S P ops q o (fits H a) r) (hd : o.dst = some d) (h : lexAtC S ch P ops n ds F (k + 1) rest ((d, r) :: H) a) : lexAtC S ch P ops n ds F k (o :: rest) H a :=
  ⟨r, hk, svQ hi hq hs, by rw [fits_hide hd]; exact h⟩
end
end Go.Proofs.YtgehgjalkponfaaGreatDoor
