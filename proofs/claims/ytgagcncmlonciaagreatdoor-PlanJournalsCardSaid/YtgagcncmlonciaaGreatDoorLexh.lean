/- A region whose last operation but one, a call, all ahead of it lead to. -/
import Derived.Test.YtgagcncmlonciaaGreatDoorGC
namespace Go.Proofs.YtgagcncmlonciaaGreatDoor
open Go.RowKit
section
variable {R : World → World → Prop} {P : Program} {ops : Array Oper} {n m : Nat} {r : Nat → Held} {w0 : World} {a : Act}

/-- Where the last one may come up all others have. -/
theorem led_all2 (hl : ∀ j, j < m → ∃ k p, j < k ∧ k ≤ m ∧ ops[k]? = some p ∧ ∃ e ∈ p.after, Region.binds .any e = true ∧ e.on = j) {listed : Array Bool} {c : Act} {w : World} (h : Along R ops r w0 a listed c w)
    (hm : m ∈ Region.ready .any ops listed) : ∀ d j, j + d + 1 = m → listed.getD j false = true := by
  intro d
  induction d using Nat.strongRecOn with
  | _ d ih =>
    intro j hj
    obtain ⟨k, p, hjk, hkm, hp, e, he, hb, rfl⟩ := hl j (by omega)
    have hk : k < ops.size := lt_of_some hp
    by_cases hkm : k = m
    · subst hkm
      obtain ⟨_, o, ho, hall⟩ := mem_ready.1 hm
      rw [hp] at ho; cases ho
      exact hall e he hb
    · exact h.deps k p hp (ih (m - 1 - k) (by omega) k (by omega)) e he hb

theorem wpAny_led2 [Turns R] (hF : Formed ops n) (hn : a.tmps.size = n) (hk : ∀ k, (r k).keeps R) (hsz : ops.size = m + 2) (hl : ∀ j, j < m → ∃ k p, j < k ∧ k ≤ m ∧ ops[k]? = some p ∧ ∃ e ∈ p.after, Region.binds .any e = true ∧ e.on = j)
    (hS : ∀ i o, i < m → ops[i]? = some o → Serves R P ops w0 o (slotsBy ops r (fun t x _ => x = a.eval (.tmp t)) i) (r i)) {Q : Exit → Act → World → Prop}
    (hQ : ∀ c w, R w0 w → c.tmps.size = a.tmps.size → c.defers = a.defers → (∀ t, slotsBy ops r (fun t x _ => x = a.eval (.tmp t)) m t (c.eval (.tmp t)) w) → wpOp P ops Q m (fun c w => wpOp P ops Q (m + 1) (Q .normal) c w) c w) (hlast : ∃ p, ops[m + 1]? = some p ∧ ∃ e ∈ p.after, Region.binds .any e = true ∧ e.on = m) :
    ∀ (fuel : Nat) (listed : Array Bool) (c : Act) (w : World), listed.toList.count false ≤ fuel → Along R ops r w0 a listed c w → listed.getD m true = false → wpAny P .any ops Q fuel listed c w := by
  have hnot : ∀ (listed : Array Bool) (c : Act) (w : World), Along R ops r w0 a listed c w → listed.getD m true = false → Region.ready .any ops listed ≠ [] := fun listed c w h hm h0 => by
    have := all_listed hF h.size h0 m (by omega)
    have hlt := getD_lt this
    simp [hlt] at this hm
    rw [hm] at this; cases this
  intro fuel
  induction fuel with
  | zero =>
    intro listed c w hc h hm
    exfalso
    have hml : m < listed.size := by rw [h.size]; omega
    have := count_set hml hm
    omega
  | succ fuel ih =>
    intro listed c w hc h hm
    refine ⟨fun h0 => absurd h0 (hnot _ _ _ h hm), fun i hi => ?_⟩
    obtain ⟨hun, o, ho, _⟩ := mem_ready.1 hi
    have hil : i < listed.size := by rw [h.size]; exact lt_of_some ho
    have hcnt := count_set hil hun
    by_cases him : i = m
    · subst him
      have hall := led_all2 hl h hi
      have hfit : ∀ t, slotsBy ops r (fun t x _ => x = a.eval (.tmp t)) i t (c.eval (.tmp t)) w := fun t => by
        by_cases hex : ∃ (j : Nat) (p : Oper), j < i ∧ ops[j]? = some p ∧ p.dst = some t
        · obtain ⟨j, p, hji, hp, hd⟩ := hex
          rw [slotsBy_of hF hji hp hd]
          exact h.done j p t hp (hall (i - 1 - j) j (by omega)) hd
        · rw [slotsBy_none fun j hj hd => hex ⟨j, by
            cases hp : ops[j]? with
            | none => rw [hp] at hd; cases hd
            | some p => rw [hp] at hd; exact ⟨p, hj, rfl, hd⟩⟩]
          refine h.rest t fun j p hp hj hd => hex ⟨j, p, ?_, hp, hd⟩
          have hjs := lt_of_some hp
          have hne : j ≠ i := fun e => by
            subst e
            simp [hil] at hun hj
            rw [hun] at hj; cases hj
          have hne2 : j ≠ i + 1 := fun e => by
            obtain ⟨p2, hp2, e2, he2, hb2, hon⟩ := hlast
            have := h.deps (i + 1) p2 hp2 (e ▸ hj) e2 he2 hb2
            rw [hon] at this
            simp [hil] at hun this
            rw [hun] at this; cases this
          omega
      refine wpOp_mono (fun c' w' hq => ?_) (hQ c w h.below h.frame h.defers hfit)
      obtain ⟨p2, hp2, e2, he2, hb2, hon⟩ := hlast
      have h2l : listed.getD (i + 1) true = false := by
        cases hc2 : listed.getD (i + 1) true with
        | false => rfl
        | true =>
          exfalso
          have hlt2 : i + 1 < listed.size := by rw [h.size]; omega
          have hd2 := h.deps (i + 1) p2 hp2 (by simp [hlt2] at hc2 ⊢; exact hc2) e2 he2 hb2
          rw [hon] at hd2
          simp [hil] at hun hd2
          rw [hun] at hd2; cases hd2
      have h2l' : (listed.setIfInBounds i true).getD (i + 1) true = false := by rw [getD_set_ne true (by omega)]; exact h2l
      have h2s : i + 1 < (listed.setIfInBounds i true).size := by rw [Array.size_setIfInBounds, h.size]; omega
      have hcnt2 := count_set h2s h2l'
      have honly : ∀ k, k ∈ Region.ready .any ops (listed.setIfInBounds i true) → k = i + 1 := fun k hk' => by
        obtain ⟨hku, p, hp, _⟩ := mem_ready.1 hk'
        have hks := lt_of_some hp
        rcases (show k = i + 1 ∨ k = i ∨ k < i by omega) with e | hki
        · exact e
        exfalso
        have hkl : (listed.setIfInBounds i true).getD k false = true := by
          rcases hki with e | e
          · subst e; exact getD_set_self hil
          · exact getD_set_true (hall (i - 1 - k) k (by omega))
        have hlt := getD_lt hkl
        rw [Array.size_setIfInBounds] at hlt
        simp [hlt] at hku hkl
        rw [hku] at hkl; cases hkl
      cases fuel with
      | zero => exfalso; omega
      | succ fuel =>
        refine ⟨fun h0 => ?_, fun k hk => ?_⟩
        · exfalso
          have := all_listed hF (by rw [Array.size_setIfInBounds, h.size]) h0 (i + 1) (by omega)
          rw [Array.getD_eq_getD_getElem?, Array.getElem?_eq_getElem h2s, Option.getD_some] at this h2l'
          rw [this] at h2l'; cases h2l'
        · obtain rfl := honly k hk
          refine wpOp_mono (fun c'' w'' hq2 => ?_) hq
          have hempty : Region.ready .any ops ((listed.setIfInBounds i true).setIfInBounds (i + 1) true) = [] := by
            cases hr : Region.ready .any ops ((listed.setIfInBounds i true).setIfInBounds (i + 1) true) with
            | nil => rfl
            | cons k l =>
              exfalso
              have hk' : k ∈ Region.ready .any ops ((listed.setIfInBounds i true).setIfInBounds (i + 1) true) := by rw [hr]; exact List.mem_cons_self
              obtain ⟨hku, p, hp, _⟩ := mem_ready.1 hk'
              have hks := lt_of_some hp
              have hkl : ((listed.setIfInBounds i true).setIfInBounds (i + 1) true).getD k false = true := by
                by_cases hki2 : k = i + 1
                · subst hki2; exact getD_set_self h2s
                by_cases hki : k = i
                · subst hki; exact getD_set_true (getD_set_self hil)
                · exact getD_set_true (getD_set_true (hall (i - 1 - k) k (by omega)))
              have hlt := getD_lt hkl
              rw [Array.getD_eq_getD_getElem?, Array.getElem?_eq_getElem hlt, Option.getD_some] at hku hkl
              rw [hku] at hkl; cases hkl
          cases fuel with
          | zero => exact ⟨hempty, hq2⟩
          | succ fuel => exact ⟨fun _ => hq2, fun k hk => by rw [hempty] at hk; cases hk⟩
    · have hne2 : i ≠ m + 1 := fun e => by
        subst e
        obtain ⟨p2, hp2, e2, he2, hb2, hon⟩ := hlast
        obtain ⟨_, o', ho', hall⟩ := mem_ready.1 hi
        rw [hp2] at ho'; cases ho'
        have := hall e2 he2 hb2
        rw [hon] at this
        have hlt := getD_lt this
        simp [hlt] at this hm
        rw [this] at hm; cases hm
      have hlt : i < m := by have := lt_of_some ho; omega
      have hm' : (listed.setIfInBounds i true).getD m true = false := by rw [getD_set_ne true him]; exact hm
      unfold wpOp
      rw [ho]
      simp only []
      rcases hS i o hlt ho c w h.below (h.looks hF ho hi) with ⟨h1, h2⟩ | ⟨h1, h2⟩
      · rw [h1]
        exact ih _ _ _ (by omega) (h.step hF hn hk ho hi (Turns.refl w) h2) hm'
      · rw [h1]
        exact .inl (h2 _ _ fun x w' hb hr => ih _ _ _ (by omega) (h.step hF hn hk ho hi hb hr) hm')
end

def ledB2 (ops : Array Oper) (m : Nat) : Bool :=
  decide (ops.size = m + 2) && ((List.range m).all fun j => (List.range (m + 1)).any fun k => decide (j < k) && match ops[k]? with
    | none => false
    | some p => p.after.toList.any fun e => Region.binds .any e && decide (e.on = j)) && match ops[m + 1]? with
    | none => false
    | some p => p.after.toList.any fun e => Region.binds .any e && decide (e.on = m)
theorem led2_of {ops : Array Oper} {m : Nat} (h : ledB2 ops m = true) : ops.size = m + 2 ∧ (∀ j, j < m → ∃ k p, j < k ∧ k ≤ m ∧ ops[k]? = some p ∧ ∃ e ∈ p.after, Region.binds .any e = true ∧ e.on = j) ∧ ∃ p, ops[m + 1]? = some p ∧ ∃ e ∈ p.after, Region.binds .any e = true ∧ e.on = m := by
  unfold ledB2 at h
  rw [Bool.and_eq_true, Bool.and_eq_true, decide_eq_true_eq, List.all_eq_true] at h
  obtain ⟨⟨h0, h1⟩, h2⟩ := h
  refine ⟨h0, fun j hj => ?_, ?_⟩
  · have := h1 j (List.mem_range.2 hj)
    rw [List.any_eq_true] at this
    obtain ⟨k, hk, hb⟩ := this
    rw [Bool.and_eq_true, decide_eq_true_eq] at hb
    obtain ⟨h1, h2⟩ := hb
    cases hp : ops[k]? with
    | none => rw [hp] at h2; cases h2
    | some p =>
      rw [hp] at h2
      simp only [List.any_eq_true, Bool.and_eq_true, decide_eq_true_eq] at h2
      obtain ⟨e, he, hb⟩ := h2
      exact ⟨k, p, h1, by have := List.mem_range.1 hk; omega, hp, e, Array.mem_toList_iff.1 he, hb.1, hb.2⟩
  · cases hp : ops[m + 1]? with
    | none => rw [hp] at h2; cases h2
    | some p =>
      rw [hp] at h2
      simp only [List.any_eq_true, Bool.and_eq_true, decide_eq_true_eq] at h2
      obtain ⟨e, he, hb⟩ := h2
      exact ⟨p, rfl, e, Array.mem_toList_iff.1 he, hb.1, hb.2⟩

/-- A region whose last operation but one all ahead of it lead to. -/
theorem wp_region_led2 {R : World → World → Prop} [Turns R] {P : Program} {id : Nat} {Q : Exit → Act → World → Prop} {a : Act} {w : World} {l : List Oper} {oC oM : Oper} (hm : P.follows .mixedOrders = true) (hB : formedB l.toArray a.tmps.size = true)
    (hL : l.dropLast.getLast? = some oC) (hM : l.getLast? = some oM) (hD : ledB2 l.toArray (l.length - 2) = true) (h : lexAt R P l.toArray w a.tmps.size a.defers (fun c w' => wpList P l.toArray Q [oC, oM] c w') l.dropLast.dropLast [] a) : (Code.region id l.toArray true).wp P Q a w := by
  have hF := formed_of hB
  obtain ⟨hsz, hl, hbl⟩ := led2_of hD
  have hlen : l.length = (l.length - 2) + 2 := by simpa using hsz
  have hget : ∀ j, j < l.length - 2 → l.dropLast.dropLast[j]? = l.toArray[j]? := fun j hj => by
    rw [List.getElem?_dropLast, List.getElem?_dropLast, List.length_dropLast, if_pos (by omega), if_pos (by omega)]; simp
  -- the walk over the list without its last
  have key : ∀ (rest : List Oper) (k : Nat) (r : Nat → Held), k + rest.length = l.length - 2 → (∀ j, j < rest.length → rest[j]? = l.toArray[k + j]?) →
      (∀ j, j < k → (r j).keeps R) → (∀ j o, j < k → l.toArray[j]? = some o → Serves R P l.toArray w o (slotsBy l.toArray r (fun t x _ => x = a.eval (.tmp t)) j) (r j)) →
      wpLex R P l.toArray w (fun s => ∀ c w', R w w' → c.tmps.size = a.tmps.size → c.defers = a.defers → (∀ t, s t (c.eval (.tmp t)) w') → wpList P l.toArray Q [oC, oM] c w') rest (slotsBy l.toArray r (fun t x _ => x = a.eval (.tmp t)) k) →
      ∃ r' : Nat → Held, (∀ j, (r' j).keeps R) ∧ (∀ j o, j < l.length - 2 → l.toArray[j]? = some o → Serves R P l.toArray w o (slotsBy l.toArray r' (fun t x _ => x = a.eval (.tmp t)) j) (r' j)) ∧
        ∀ c w', R w w' → c.tmps.size = a.tmps.size → c.defers = a.defers → (∀ t, slotsBy l.toArray r' (fun t x _ => x = a.eval (.tmp t)) (l.length - 2) t (c.eval (.tmp t)) w') → wpList P l.toArray Q [oC, oM] c w' := by
    intro rest
    induction rest with
    | nil =>
      intro k r hk _ h1 h2 h3
      have hk' : k = l.length - 2 := by simpa using hk
      have hs : ∀ q, q ≤ k → slotsBy l.toArray (fun j => if j < k then r j else fun _ _ => True) (fun t x _ => x = a.eval (.tmp t)) q = slotsBy l.toArray r (fun t x _ => x = a.eval (.tmp t)) q := by
        intro q
        induction q with
        | zero => intro _; rfl
        | succ q ih =>
          intro hq
          funext t
          unfold slotsBy
          rw [ih (by omega), if_pos (show q < k by omega)]
      refine ⟨fun j => if j < k then r j else fun _ _ => True, fun j => ?_, fun j o hj ho => ?_, ?_⟩
      · by_cases hj : j < k
        · simp only [hj, if_true]; exact h1 j hj
        · simp only [hj, if_false]; exact fun _ _ _ _ _ => trivial
      · have hj' : j < k := by omega
        simp only [hj', if_true]
        rw [hs j (by omega)]
        exact h2 j o hj' ho
      · rw [← hk', hs k (Nat.le_refl _)]
        exact h3
    | cons o rest ih =>
      intro k r hk hl' h1 h2 h3
      obtain ⟨q, hq, hsv, hrest⟩ := h3
      have ho : l.toArray[k]? = some o := by simpa using (hl' 0 (by simp)).symm
      have hs : ∀ m, m ≤ k → slotsBy l.toArray (fun j => if j = k then q else r j) (fun t x _ => x = a.eval (.tmp t)) m = slotsBy l.toArray r (fun t x _ => x = a.eval (.tmp t)) m := by
        intro m
        induction m with
        | zero => intro _; rfl
        | succ m ih =>
          intro hm
          funext t
          unfold slotsBy
          rw [ih (by omega), if_neg (show m ≠ k by omega)]
      refine ih (k + 1) (fun j => if j = k then q else r j) (by simp at hk; omega) (fun j hj => ?_) (fun j hj => ?_) (fun j p hj hp => ?_) ?_
      · have := hl' (j + 1) (by simp; omega)
        rw [show k + 1 + j = k + (j + 1) by omega, ← this]
        simp
      · by_cases hjk : j = k
        · simp only [hjk, if_true]; exact hq
        · simp only [hjk, if_false]; exact h1 j (by omega)
      · rw [hs j (by omega)]
        by_cases hjk : j = k
        · subst hjk
          simp only [if_true]
          rw [hp] at ho; cases ho
          exact hsv
        · simp only [hjk, if_false]; exact h2 j p (by omega) hp
      · have : slotsBy l.toArray (fun j => if j = k then q else r j) (fun t x _ => x = a.eval (.tmp t)) (k + 1) = fun t => if o.dst = some t then q else slotsBy l.toArray r (fun t x _ => x = a.eval (.tmp t)) k t := by
          funext t
          show (if (l.toArray[k]?).bind (·.dst) = some t then _ else _) = _
          rw [hs k (Nat.le_refl _), ho]
          simp
        rw [this]
        exact hrest
  obtain ⟨r, h1, h2, h3⟩ := key l.dropLast.dropLast 0 (fun _ _ _ => True) (by simp; omega) (fun j hj => by rw [Nat.zero_add]; exact hget j (by simp at hj; omega)) (fun j hj => by omega) (fun j _ hj => by omega) h
  refine wp_region_any hm ?_
  have hlastC : l.toArray[l.length - 2]? = some oC := by
    rw [← hL, List.getLast?_eq_getElem?, List.getElem?_dropLast, List.length_dropLast, if_pos (by omega)]
    simp [Nat.sub_sub]
  have hlastM : l.toArray[l.length - 2 + 1]? = some oM := by
    rw [← hM, List.getLast?_eq_getElem?, show l.length - 2 + 1 = l.length - 1 by omega]
    simp
  refine wpAny_led2 hF rfl h1 hsz hl h2 (fun c w' hb hs hd ht => ?_) hbl _ _ _ _ ?_ ⟨by simp, fun j p hp hj => ?_, fun j p t hp hj => ?_, fun _ _ => rfl, rfl, rfl, Turns.drew w⟩ ?_
  · have := h3 c w' hb hs hd ht
    have e : (fun c w => wpOp P l.toArray Q (l.length - 2 + 1) (Q .normal) c w) = (fun c w => wpList P l.toArray Q [oM] c w) := by
      funext c w
      unfold wpOp
      rw [hlastM]
      rfl
    rw [e]
    unfold wpOp
    rw [hlastC]
    exact this
  · rw [Array.toList_replicate]; exact Nat.le_trans List.count_le_length (by simp)
  · rw [replicate_getD] at hj; cases hj
  · rw [replicate_getD] at hj; cases hj
  · rw [Array.getD_eq_getD_getElem?, Array.getElem?_replicate, if_pos (by rw [List.size_toArray]; omega)]; rfl

end Go.Proofs.YtgagcncmlonciaaGreatDoor
