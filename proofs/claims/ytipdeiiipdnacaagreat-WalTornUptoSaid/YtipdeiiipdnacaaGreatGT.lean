/- What is cut tells a beginning: in plain words. What is cut of rows tells a beginning of them: in plain words. Rows of changes, as they may come; and all changes of rows: the walk of joined. All changes of rows: the walk of joined. Rows that are put are read, and the writer goes on: in plain words. A region that draws its order: a call one of whose arguments is hidden. Over any program. A region that draws its order and lays a writer in a block of its own: how the world may turn. The law WalBack: the walk. -/
import Derived.Test.YtipdeiiipdnacaaGreatGR
import Derived.Test.YtipdeiiipdnacaaGreatGN
import Derived.Test.YtipdeiiipdnacaaGreatRows
import Derived.Laws.AppendOwnNone
import Derived.Test.YtipdeiiipdnacaaGreatGK
namespace Go.Proofs.YtipdeiiipdnacaaGreat

theorem smallF_cut : ∀ (f n m : Nat), m < (Num.smallF f n).length → ((Num.smallF f n).take m).all (fun b => decide (128 ≤ b.toNat)) = true
  | 0, n, m, h => by
    simp only [Num.smallF, List.length_cons, List.length_nil] at h
    obtain rfl : m = 0 := by omega
    rfl
  | f + 1, n, m, h => by
    unfold Num.smallF at *
    split at h
    · simp only [List.length_cons, List.length_nil] at h
      obtain rfl : m = 0 := by omega
      rfl
    · rename_i hn
      rw [if_neg hn]
      cases m with
      | zero => rfl
      | succ m =>
        simp only [List.length_cons] at h
        rw [List.take_succ_cons, List.all_cons, smallF_cut f (n / 128) m (by omega), Bool.and_true]
        rw [Num.ofNat_toNat _ (by omega)]
        simp
theorem gsF_high : ∀ (f i acc : Nat) (l : List UInt8), l.all (fun b => decide (128 ≤ b.toNat)) = true → l.length < f → Num.gsF f i acc l = none
  | 0, _, _, _, _, h => by omega
  | f + 1, i, acc, [], _, _ => by simp [Num.gsF]
  | f + 1, i, acc, b :: l, h, hl => by
    simp only [List.all_cons, Bool.and_eq_true, decide_eq_true_eq] at h
    unfold Num.gsF
    split
    · rfl
    · rw [if_neg (by omega)]
      exact gsF_high f _ _ l h.2 (by simpa using hl)
theorem getSmall_cut (n m : Nat) (h : m < (Num.small n).length) : Num.getSmall ((Num.small n).take m) = none ∧ unendedB ((Num.small n).take m) = true := by
  have h1 := smallF_cut 9 n m h
  have h2 := (Num.small_len n).2
  have h3 : ((Num.small n).take m).length = m := by rw [List.length_take]; omega
  refine ⟨gsF_high 10 0 0 _ h1 (by omega), ?_⟩
  unfold unendedB
  rw [h3]
  simp only [Bool.and_eq_true, decide_eq_true_eq]
  exact ⟨h1, by omega⟩
/-- A frame that is cut is short. -/
theorem frameGet_cut (b : List UInt8) (most : Nat) (h1 : b.length ≤ most) (h2 : most < 1048576) (n : Nat) (h : n < (framePut b).length) : (frameGet ((framePut b).take n) most).2.2 = 1 := by
  have hlen : (framePut b).length = (Num.small b.length).length + b.length + 4 := by
    unfold framePut
    rw [checkedB_len, Num.text_len]
  have he : framePut b = Num.small b.length ++ (b ++ tailB (Num.text b)) := by
    unfold framePut checkedB
    rw [show Num.text b = Num.small b.length ++ b from rfl, List.append_assoc]
  by_cases hn : n < (Num.small b.length).length
  · have ht : (framePut b).take n = (Num.small b.length).take n := by
      rw [he, List.take_append_of_le_length (by omega)]
    obtain ⟨h3, h4⟩ := getSmall_cut b.length n hn
    rw [ht]
    unfold frameGet
    rw [h3]
    simp only
    rw [if_pos h4]
  · have ht : (framePut b).take n = Num.small b.length ++ (b ++ tailB (Num.text b)).take (n - (Num.small b.length).length) := by
      rw [he, List.take_append, List.take_of_length_le (by omega)]
    rw [ht]
    unfold frameGet
    rw [Num.getSmall_small b.length (by omega)]
    simp only
    rw [if_neg (by omega), List.drop_left' rfl, if_pos (by rw [List.length_take]; omega)]

/-- Bytes that tell some changes behind keys: whole they are got, and cut they are short. -/
def UnitB (g : Int) (K : List (List UInt8)) (u : List UInt8) (R : List Rc) (K' : List (List UInt8)) : Prop :=
  u ≠ [] ∧ (∀ r, getBy g K (u ++ r) = (some (R, K', r), 0)) ∧ ∀ n, 0 < n → n < u.length → getBy g K (u.take n) = (none, 1)
/-- A row of these. -/
inductive Chain (g : Int) : List (List UInt8) → List (List UInt8 × List Rc) → List (List UInt8) → Prop
  | nil (K) : Chain g K [] K
  | cons (K K1 K2 u R l) : UnitB g K u R K1 → Chain g K1 l K2 → Chain g K ((u, R) :: l) K2
def bytesC (l : List (List UInt8 × List Rc)) : List UInt8 := l.flatMap (·.1)
def recsC (l : List (List UInt8 × List Rc)) : List Rc := l.flatMap (·.2)
theorem bytesC_app (a b : List (List UInt8 × List Rc)) : bytesC (a ++ b) = bytesC a ++ bytesC b := List.flatMap_append
theorem recsC_app (a b : List (List UInt8 × List Rc)) : recsC (a ++ b) = recsC a ++ recsC b := List.flatMap_append
theorem Chain.app {g : Int} {K K1 K2 : List (List UInt8)} {a b : List (List UInt8 × List Rc)} (h1 : Chain g K a K1) (h2 : Chain g K1 b K2) : Chain g K (a ++ b) K2 := by
  induction h1 with
  | nil => exact h2
  | cons K K1 K2 u R l hu _ ih => exact .cons _ _ _ _ _ _ hu (ih h2)
theorem unit1 (x : Rc) (K : List (List UInt8)) (hok : x.ok) (hv : validE x 1 = 0) : UnitB 1 K (oneB x) [x] K := by
  have hf := (right_fits x (valid_right x 1 hv)).1.2
  have hlen := oneB_len x hf
  refine ⟨oneB_ne x hf, fun r => ?_, fun n h0 hn => ?_⟩
  · unfold getBy
    rw [if_pos rfl, fixGet_put x _ hok hv]
    simp only
    rw [List.drop_left' hlen]
  · unfold getBy
    rw [if_pos rfl, show fixGet ((oneB x).take n) = (none, 1) by
      unfold fixGet
      rw [if_pos (by rw [List.length_take]; omega)]]
theorem unit2 (x : Rc) (K : List (List UInt8)) (hok : x.ok) (hv : validE x 2 = 0) (hK : K.length ≤ 1000000) (hl : (smallOne K x).1.length ≤ 20000) : UnitB 2 K (framePut (smallOne K x).1) [x] (smallOne K x).2 := by
  refine ⟨framePut_ne _, fun r => ?_, fun n h0 hn => ?_⟩
  · unfold getBy
    rw [if_neg (by decide), if_pos rfl, smallGet_put K x _ hok hv (by omega) hl, frameGet_put _ _ 20000 hl (by omega)]
  · have h := frameGet_cut _ 20000 hl (by omega) n hn
    unfold getBy
    rw [if_neg (by decide), if_pos rfl, show smallGet K ((framePut (smallOne K x).1).take n) = (none, 1) by
      unfold smallGet
      rw [if_pos (by rw [h]; decide), h]]
theorem unit3 (R : List Rc) (K : List (List UInt8)) (hR0 : R ≠ []) (h : ∀ x ∈ R, validE x 3 = 0 ∧ x.ok) (hK : K.length + R.length ≤ 1000000) (hR : R.length ≤ 20000) (hl : (Num.small R.length ++ (batLoop K 0 0 R).1).length ≤ 20000) :
    UnitB 3 K (framePut (Num.small R.length ++ (batLoop K 0 0 R).1)) R (batLoop K 0 0 R).2 := by
  refine ⟨framePut_ne _, fun r => ?_, fun n h0 hn => ?_⟩
  · unfold getBy
    rw [if_neg (by decide), if_neg (by decide), batGet_put K R r hR0 h hK hR hl, frameGet_put _ _ 20000 hl (by omega)]
  · have h := frameGet_cut _ 20000 hl (by omega) n hn
    unfold getBy
    rw [if_neg (by decide), if_neg (by decide), show batGet K ((framePut (Num.small R.length ++ (batLoop K 0 0 R).1)).take n) = (none, 1) by
      unfold batGet
      rw [if_pos (by rw [h]; decide), h]]
theorem chain1 : ∀ (R : List Rc) (K : List (List UInt8)), (∀ x ∈ R, validE x 1 = 0 ∧ x.ok) → ∃ l, Chain 1 K l K ∧ bytesC l = fixPut R ∧ recsC l = R
  | [], K, _ => ⟨[], .nil K, rfl, rfl⟩
  | x :: R, K, h => by
    obtain ⟨l, h1, h2, h3⟩ := chain1 R K fun y hy => h y (List.mem_cons_of_mem _ hy)
    obtain ⟨hv, hok⟩ := h x List.mem_cons_self
    refine ⟨(oneB x, [x]) :: l, .cons _ _ _ _ _ _ (unit1 x K hok hv) h1, ?_, ?_⟩
    · unfold fixPut at *
      rw [List.flatMap_cons, ← h2]
      simp [bytesC]
    · rw [show recsC ((oneB x, [x]) :: l) = [x] ++ recsC l by simp [recsC], h3]
      rfl
theorem chain2 : ∀ (R : List Rc) (K : List (List UInt8)) (s : List UInt8) (K' : List (List UInt8)), smallPut K R = (some s, K') → (∀ x ∈ R, validE x 2 = 0 ∧ x.ok) → K.length + R.length ≤ 1000000 → ∃ l, Chain 2 K l K' ∧ bytesC l = s ∧ recsC l = R
  | [], K, s, K', hp, _, _ => by
    obtain ⟨h1, rfl⟩ := Prod.mk.inj hp
    obtain rfl := Option.some.inj h1
    exact ⟨[], .nil _, rfl, rfl⟩
  | x :: R, K, s, K', hp, h, hK => by
    obtain ⟨hv, hok⟩ := h x List.mem_cons_self
    rw [List.length_cons] at hK
    unfold smallPut at hp
    split at hp
    · cases hp
    · rename_i hl
      have hl : (smallOne K x).1.length ≤ 20000 := by omega
      obtain ⟨h1, h2⟩ := Prod.mk.inj hp
      have hk := smallOne_keys K x
      rcases hs2 : smallPut (smallOne K x).2 R with ⟨o, K2⟩
      rw [hs2] at h1 h2
      cases o with
      | none => cases h1
      | some s2 =>
        simp only at h2
        subst h2
        have e := (Option.some.inj h1).symm
        simp only at e
        subst e
        obtain ⟨l, h3, h4, h5⟩ := chain2 R _ s2 K2 hs2 (fun y hy => h y (List.mem_cons_of_mem _ hy)) (by omega)
        refine ⟨(framePut (smallOne K x).1, [x]) :: l, .cons _ _ _ _ _ _ (unit2 x K hok hv (by omega) hl) h3, ?_, ?_⟩
        · rw [← h4]
          simp [bytesC]
        · rw [show recsC ((framePut (smallOne K x).1, [x]) :: l) = [x] ++ recsC l by simp [recsC], h5]
          rfl
/-- What a row of changes that is put is made of. -/
theorem chain_put (g : Int) (hg : knownB g = true) (R : List Rc) (K : List (List UInt8)) (s : List UInt8) (K' : List (List UInt8)) (hp : putBy g K R = (some s, K')) (h : ∀ x ∈ R, validE x g = 0 ∧ x.ok) (hK : K.length + R.length ≤ 1000000) (hR : R.length ≤ 20000) :
    ∃ l, Chain g K l K' ∧ bytesC l = s ∧ recsC l = R ∧ (g = 3 → l.length ≤ 1) := by
  unfold knownB at hg
  simp only [Bool.and_eq_true, decide_eq_true_eq] at hg
  rcases (show g = 1 ∨ g = 2 ∨ g = 3 by omega) with rfl | rfl | rfl
  · obtain ⟨h1, rfl⟩ := Prod.mk.inj (show (some (fixPut R), K) = (some s, K') from hp)
    obtain rfl := Option.some.inj h1
    obtain ⟨l, h2, h3, h4⟩ := chain1 R K h
    exact ⟨l, h2, h3, h4, fun e => by cases e⟩
  · obtain ⟨l, h2, h3, h4⟩ := chain2 R K s K' hp h hK
    exact ⟨l, h2, h3, h4, fun e => by cases e⟩
  · have hp3 : (if (batPut K R).1.2 then some (batPut K R).1.1 else none, (batPut K R).2) = (some s, K') := hp
    obtain ⟨h1, rfl⟩ := Prod.mk.inj hp3
    split at h1
    · rename_i hb
      obtain rfl := Option.some.inj h1
      unfold batPut at *
      by_cases hR0 : R = []
      · subst hR0
        rw [if_pos rfl]
        exact ⟨[], .nil _, rfl, rfl, fun _ => by simp⟩
      · rw [if_neg hR0] at *
        have hl : (Num.small R.length ++ (batLoop K 0 0 R).1).length ≤ 20000 := by simpa using hb
        exact ⟨[(_, R)], .cons _ _ _ _ _ _ (unit3 R K hR0 h hK hR hl) (.nil _), by simp [bytesC], by simp [recsC], fun _ => by simp⟩
    · cases h1
/-- What is cut. -/
theorem chain_cut {g : Int} {K K2 : List (List UInt8)} {l : List (List UInt8 × List Rc)} (h : Chain g K l K2) (n q : Nat) (hn : n ≤ (bytesC l).length) (hq : n ≤ q) :
    ∃ l1 l2 Km p, l = l1 ++ l2 ∧ Chain g K l1 Km ∧ (bytesC l).take n = bytesC l1 ++ p ∧ (∀ y l3, l2 = y :: l3 → p.length < y.1.length) ∧ readLoop g q K ((bytesC l).take n) = some (recsC l1, Km, p, decide (p ≠ [])) := by
  induction h generalizing n q with
  | nil K =>
    refine ⟨[], [], K, [], rfl, .nil K, by simp [bytesC], (fun y l3 e => by simp at e), ?_⟩
    obtain rfl : n = 0 := by simpa [bytesC] using hn
    simp [bytesC, recsC, readLoop_nil]
  | cons K K1 K2 u R l hu hc ih =>
    have hbc : bytesC ((u, R) :: l) = u ++ bytesC l := by simp [bytesC]
    rw [hbc] at hn ⊢
    rw [List.length_append] at hn
    by_cases hlt : n < u.length
    · refine ⟨[], (u, R) :: l, K, u.take n, rfl, .nil K, ?_, ?_, ?_⟩
      · rw [List.take_append_of_le_length (by omega)]
        simp [bytesC]
      · rintro y l3 e
        obtain ⟨rfl, _⟩ := List.cons.inj e
        simp only [List.length_take]
        omega
      · rw [List.take_append_of_le_length (by omega)]
        by_cases h0 : n = 0
        · subst h0
          simp [recsC, readLoop_nil]
        · have hne : u.take n ≠ [] := fun e => by
            have := congrArg List.length e
            rw [List.length_take, List.length_nil] at this
            omega
          obtain ⟨q, rfl⟩ := Nat.exists_eq_succ_of_ne_zero (show q ≠ 0 by omega)
          rw [readLoop, if_neg hne, hu.2.2 n (by omega) hlt]
          simp [hne, recsC]
    · obtain ⟨l1, l2, Km, p, h1, h2, h3, h4, h5⟩ := ih (n - u.length) (n - u.length) (by omega) (Nat.le_refl _)
      have ht : (u ++ bytesC l).take n = u ++ (bytesC l).take (n - u.length) := by
        rw [List.take_append, List.take_of_length_le (by omega)]
      have hl : ((bytesC l).take (n - u.length)).length = n - u.length := by
        rw [List.length_take]
        omega
      refine ⟨(u, R) :: l1, l2, Km, p, by rw [h1]; rfl, .cons _ _ _ _ _ _ hu h2, ?_, h4, ?_⟩
      · rw [ht, h3]
        simp [bytesC]
      · rw [ht, readLoop_step g q K K1 u _ R hu.1 (hu.2.1 _) (by rw [List.length_append]; omega), hl, h5]
        simp [behindR, recsC]
/-- What is whole is read whole. -/
theorem chain_read {g : Int} {K K2 : List (List UInt8)} {l : List (List UInt8 × List Rc)} (h : Chain g K l K2) : readLoop g (bytesC l).length K (bytesC l) = some (recsC l, K2, [], false) := by
  induction h with
  | nil K => exact readLoop_nil g _ K
  | cons K K1 K2 u R l hu _ ih =>
    have hbc : bytesC ((u, R) :: l) = u ++ bytesC l := by simp [bytesC]
    rw [hbc, readLoop_step g _ K K1 u _ R hu.1 (hu.2.1 _) (Nat.le_refl _), ih]
    simp [behindR, recsC]
end Go.Proofs.YtipdeiiipdnacaaGreat
namespace Go.Proofs.YtipdeiiipdnacaaGreat

theorem rows_chain (g : Int) : ∀ (LL : List (List Rc)) (K K' : List (List UInt8)) (s : List UInt8), segB g K LL = some (s, K') → (∀ R ∈ LL, (∀ x ∈ R, x.ok) ∧ R.length ≤ 20000) → K.length + LL.flatten.length ≤ 1000000 →
    ∃ CC : List (List (List UInt8 × List Rc)), CC.length = LL.length ∧ Chain g K CC.flatten K' ∧ CC.map recsC = LL ∧ bytesC CC.flatten = s ∧ (g = 3 → ∀ c ∈ CC, c.length ≤ 1) ∧ ∀ j, ∃ Kj, segB g K (LL.take j) = some (bytesC (CC.take j).flatten, Kj)
  | [], K, K', s, h, _, _ => by
    obtain ⟨rfl, rfl⟩ := Prod.mk.inj (Option.some.inj h)
    exact ⟨[], rfl, .nil _, rfl, rfl, fun _ c hc => by simp at hc, fun j => ⟨K, by simp [segB, bytesC]⟩⟩
  | R :: LL, K, K', s, h, hok, hK => by
    have h0 := h
    unfold segB at h
    cases ho : (walPut g K R).2.1 with
    | none => rw [ho] at h; cases h
    | some K1 =>
      rw [ho] at h
      simp only at h
      cases hs : segB g K1 LL with
      | none => rw [hs] at h; cases h
      | some z =>
        obtain ⟨s2, K2⟩ := z
        rw [hs] at h
        obtain ⟨rfl, rfl⟩ := Prod.mk.inj (Option.some.inj h)
        obtain ⟨hk, hp, hv, _⟩ := walPut_some g K R (walPut g K R).1 K1 (walPut g K R).2.2 (by rw [← ho])
        have hR := hok R List.mem_cons_self
        rw [List.flatten_cons, List.length_append] at hK
        obtain ⟨l, c1, c2, c3, c4⟩ := chain_put g hk R K _ K1 hp (fun x hx => ⟨hv x hx, hR.1 x hx⟩) (by omega) hR.2
        have hkk : K1.length ≤ K.length + R.length := by
          have := (putBy_keys g K R fun x hx => (right_fits x (valid_right x g (hv x hx))).2.2.2.1).1
          rw [hp] at this
          exact this
        obtain ⟨CC, d1, d2, d3, d4, d5, d6⟩ := rows_chain g LL K1 K2 s2 hs (fun R hR => hok R (List.mem_cons_of_mem _ hR)) (by omega)
        refine ⟨l :: CC, by simp [d1], ?_, by simp [c3, d3], ?_, ?_, ?_⟩
        · rw [List.flatten_cons]
          exact c1.app d2
        · rw [List.flatten_cons, bytesC_app, c2, d4]
        · intro e c hc
          rcases List.mem_cons.1 hc with rfl | hc
          · exact c4 e
          · exact d5 e c hc
        · rintro (_ | j)
          · exact ⟨K, by simp [segB, bytesC]⟩
          · obtain ⟨Kj, hj⟩ := d6 j
            refine ⟨Kj, ?_⟩
            rw [List.take_succ_cons, segB, ho]
            simp only
            rw [hj]
            simp [bytesC_app, c2]
theorem flat_recs (CC : List (List (List UInt8 × List Rc))) : recsC CC.flatten = (CC.map recsC).flatten := by
  induction CC with
  | nil => rfl
  | cons c CC ih => rw [List.flatten_cons, recsC_app, ih, List.map_cons, List.flatten_cons]
set_option maxHeartbeats 1000000 in
theorem torn_law (g : Int) (hk : knownB g = true) (LL : List (List Rc)) (s : List UInt8) (K : List (List UInt8)) (h : segB g [] LL = some (s, K)) (hok : ∀ R ∈ LL, (∀ x ∈ R, x.ok) ∧ R.length ≤ 20000) (hL : LL.flatten.length ≤ 1000000) (n : Nat) (hn : n ≤ s.length) :
    ∃ (c u : Nat) (Km : List (List UInt8)), c ≤ LL.flatten.length ∧ u ≤ n ∧
      walRead ((headB magicB g.toNat 0 ++ s).take (10 + n)) = (some ⟨g, 0, LL.flatten.take c, Km, ((10 + u : Nat) : Int), decide (u < n)⟩, 0) ∧
      (∀ i, endAt g LL i ≤ 10 + n → (LL.take i).flatten.length ≤ c) ∧
      (g = 3 → ∀ i R, LL[i]? = some R → R ≠ [] → 10 + n < endAt g LL (i + 1) → c < (LL.take (i + 1)).flatten.length) ∧
      walRead ((headB magicB g.toNat 0 ++ s).take (10 + u)) = (some ⟨g, 0, LL.flatten.take c, Km, ((10 + u : Nat) : Int), false⟩, 0) := by
  obtain ⟨CC, d1, d2, d3, d4, d5, d6⟩ := rows_chain g LL [] K s h hok (by simpa using hL)
  have hend : ∀ j, endAt g LL j = 10 + (bytesC (CC.take j).flatten).length := fun j => by
    obtain ⟨Kj, hj⟩ := d6 j
    unfold endAt
    rw [hj]
  have hcnt : ∀ j, (LL.take j).flatten = recsC (CC.take j).flatten := fun j => by
    rw [flat_recs, List.map_take, d3]
  have hall : LL.flatten = recsC CC.flatten := by rw [flat_recs, d3]
  have hsplit : ∀ j, CC.flatten = (CC.take j).flatten ++ (CC.drop j).flatten := fun j => by
    rw [← List.flatten_append, List.take_append_drop]
  subst d4
  obtain ⟨l1, l2, Km, p, e1, e2, e3, e4, e5⟩ := chain_cut d2 n n hn (Nat.le_refl _)
  have hlen : (bytesC l1).length + p.length = n := by
    have := congrArg List.length e3
    rw [List.length_take, List.length_append] at this
    omega
  have htk : LL.flatten.take (recsC l1).length = recsC l1 := by
    rw [hall, e1, recsC_app, List.take_left' rfl]
  have hh := headB_ten g
  have ht : ∀ m, (headB magicB g.toNat 0 ++ bytesC CC.flatten).take (10 + m) = headB magicB g.toNat 0 ++ (bytesC CC.flatten).take m := fun m => by
    rw [List.take_append, hh, List.take_of_length_le (by omega)]
    simp
  refine ⟨(recsC l1).length, (bytesC l1).length, Km, ?_, by omega, ?_, ?_, ?_, ?_⟩
  · rw [hall, e1, recsC_app, List.length_append]
    omega
  · have hl : ((bytesC CC.flatten).take n).length = n := by
      rw [List.length_take]
      omega
    have h2 := walRead_head g hk ((bytesC CC.flatten).take n) (recsC l1) Km p (decide (p ≠ [])) (by rw [hl]; exact e5)
    rw [ht, htk, h2, List.length_append, hh, hl]
    have hd : decide (p ≠ []) = decide ((bytesC l1).length < n) := by
      have : p ≠ [] ↔ (bytesC l1).length < n := by
        rw [← List.length_pos_iff]
        omega
      exact decide_eq_decide.2 this
    rw [hd, show (((10 + n : Nat) : Int) - (p.length : Nat)) = ((10 + (bytesC l1).length : Nat) : Int) by omega]
  · intro i hi
    rw [hend] at hi
    rw [hcnt]
    have hs := hsplit i
    rw [e1] at hs
    generalize (CC.take i).flatten = a at *
    generalize (CC.drop i).flatten = b at *
    rcases List.append_eq_append_iff.1 hs with ⟨x, x1, x2⟩ | ⟨x, x1, x2⟩
    · cases x with
      | nil =>
        rw [x1, List.append_nil]
        exact Nat.le_refl _
      | cons y x =>
        have hp := e4 y _ x2
        rw [x1, bytesC_app, show bytesC (y :: x) = y.1 ++ bytesC x by simp [bytesC]] at hi
        simp only [List.length_append] at hi
        omega
    · rw [x1, recsC_app, List.length_append]
      omega
  · intro hg i R hR hne hi
    rw [hend] at hi
    rw [hcnt]
    have hc : ∃ c, CC[i]? = some c ∧ recsC c = R := by
      rw [← d3, List.getElem?_map] at hR
      cases hc : CC[i]? with
      | none => rw [hc] at hR; cases hR
      | some c =>
        rw [hc] at hR
        exact ⟨c, rfl, Option.some.inj hR⟩
    obtain ⟨c, hc, hcR⟩ := hc
    have h1 := d5 hg c (List.mem_of_getElem? hc)
    have hts : (CC.take (i + 1)).flatten = (CC.take i).flatten ++ c := by
      rw [List.take_add_one, hc]
      simp
    have hs : CC.flatten = (CC.take i).flatten ++ (c ++ (CC.drop (i + 1)).flatten) := by
      rw [hsplit (i + 1), hts, List.append_assoc]
    rw [hts] at hi ⊢
    rw [e1] at hs
    generalize (CC.take i).flatten = a at *
    generalize (CC.drop (i + 1)).flatten = b at *
    have hpos : 0 < (recsC c).length := by
      rw [hcR]
      exact List.length_pos_iff.2 hne
    rw [recsC_app, List.length_append]
    rcases List.append_eq_append_iff.1 hs with ⟨x, x1, x2⟩ | ⟨x, x1, x2⟩
    · rw [x1, recsC_app, List.length_append]
      omega
    · rcases c with _ | ⟨y, _ | ⟨z, c⟩⟩
      · simp [recsC] at hpos
      · cases x with
        | nil =>
          rw [x1, List.append_nil]
          omega
        | cons y2 x =>
          obtain ⟨rfl, _⟩ := List.cons.inj x2
          rw [bytesC_app, show bytesC [y] = y.1 by simp [bytesC]] at hi
          have := congrArg (fun l => (bytesC l).length) x1
          simp only [bytesC_app, show bytesC (y :: x) = y.1 ++ bytesC x by simp [bytesC], List.length_append] at this hi
          omega
      · simp at h1
  · have h0 : (bytesC CC.flatten).take (bytesC l1).length = bytesC l1 := by rw [e1, bytesC_app, List.take_left' rfl]
    rw [ht, h0, htk]
    have h2 := walRead_head g hk (bytesC l1) (recsC l1) Km [] false (chain_read e2)
    rw [h2, List.length_append, hh]
    simp
end Go.Proofs.YtipdeiiipdnacaaGreat
namespace Go.Proofs.YtipdeiiipdnacaaGreat
open Go.RowKit Go.Maps Go.WideMaps Go.ChangeShapes Go.WideShapes Go.Deep
attribute [local go_sem] bs_toList bs_size

theorem bulk_part {H : Type} {d : DataW H} {l : List (DataW H)} (h : d ∈ l) : Rows.uptoBulk d ≤ Rows.uptoBulkAll l := by
  induction l with
  | nil => cases h
  | cons x r ih =>
    simp only [Rows.uptoBulkAll]
    cases List.mem_cons.1 h with
    | inl e => subst e; omega
    | inr e => have := ih e; omega
theorem bulk_one {H : Type} (d : DataW H) : 1 ≤ Rows.uptoBulk d := by
  cases d with
  | lit l => cases l <;> simp [Rows.uptoBulk]
  | nil => simp [Rows.uptoBulk]
  | ptr d => simp [Rows.uptoBulk]
  | slice elems spare => simp [Rows.uptoBulk]
  | agg parts => simp [Rows.uptoBulk]
  | iface t d => simp [Rows.uptoBulk]
  | map entries => simp [Rows.uptoBulk]
  | held h => simp [Rows.uptoBulk]
theorem bulk_len {H : Type} (l : List (DataW H)) : l.length ≤ Rows.uptoBulkAll l := by
  induction l with
  | nil => simp [Rows.uptoBulkAll]
  | cons x r ih => have := bulk_one x; simp only [Rows.uptoBulkAll, List.length_cons]; omega

/-- Rows of changes, as many as may come. -/
def RowsOpen (w : World) (v : Value) (LL : List (List Rc)) : Prop :=
  ∃ a c, v = .slice a LL.length c ∧ LL.length ≤ maxLen ∧ ∀ (i : Nat) R, LL[i]? = some R → R.length ≤ 1048576 ∧ ∃ b o rv, a = some ⟨b, o, none⟩ ∧ w.cell? ⟨b, o + i, none⟩ = some rv ∧ RecsOpen w rv R ∧ (∀ c, rv = .slice none R.length c → c = 0)
theorem RowsOpen.below {w w' : World} {v : Value} {LL : List (List Rc)} (h : RowsOpen w v LL) (hb : Below w.heap.size w w') : RowsOpen w' v LL := by
  obtain ⟨a, c, h1, h2, h3⟩ := h
  refine ⟨a, c, h1, h2, fun i R hR => ?_⟩
  obtain ⟨h4, b, o, rv, h5, h6, h7, h8⟩ := h3 i R hR
  exact ⟨h4, b, o, rv, h5, (Below.cell hb (World.block_lt_of_cell? _ _ h6)).trans h6, h7.below hb, h8⟩
theorem RowsOpen.at {w : World} {v : Value} {LL : List (List Rc)} (h : RowsOpen w v LL) (hl : LL.length ≤ 1000) (hf : fewR LL.flatten) : RowsAt w v LL := by
  obtain ⟨a, c, h1, h2, h3⟩ := h
  refine ⟨a, c, h1, hl, fun i R hR => ?_⟩
  obtain ⟨h4, b, o, rv, h5, h6, h7, h8⟩ := h3 i R hR
  have hm := List.mem_of_getElem? hR
  have hsub : ∀ x ∈ R, x ∈ LL.flatten := fun x hx => List.mem_flatten.2 ⟨R, hm, hx⟩
  have hlen : R.length ≤ LL.flatten.length := (List.sublist_flatten_of_mem hm).length_le
  have hf1 := hf.1
  exact ⟨b, o, rv, h5, h6, h7.at ⟨by omega, fun x hx => hf.2 x (hsub x hx)⟩, by omega⟩
theorem recsOpen_row {w : World} {B : Nat} {v : Value} {Z : List (Rc × Value)} (h : w.ownsRow B 51 5 v Z.length (recsCells Z)) (hn : Z.length ≤ maxLen) (hl : ∀ z ∈ Z, z.1.ok ∧ LabsOpen w z.2 z.1.labels) : RecsOpen w v (Z.map (·.1)) := by
  have hcells : ∀ g, v.ownBlock = some g → ∀ j u, (recsCells Z)[j]? = some u → w.cell? ((⟨g, 0, none⟩ : Addr).add j) = some u := fun g hg => h.cells (g := g) hg
  rcases h.2 with ⟨e, e0⟩ | ⟨g, cap, cur, e, e1, e2, e3⟩
  · refine ⟨none, 0, by rw [e, List.length_map, e0], by rwa [List.length_map], fun i x hx => ?_⟩
    rw [List.length_eq_zero_iff.1 e0] at hx
    simp at hx
  · refine ⟨some ⟨g, 0, none⟩, cap, by rw [List.length_map]; exact e, by rwa [List.length_map], fun i x hx => ?_⟩
    rw [List.getElem?_map] at hx
    cases hz : Z[i]? with
    | none => rw [hz] at hx; cases hx
    | some z =>
      rw [hz] at hx
      obtain rfl : z.1 = x := by simpa using hx
      obtain ⟨k1, k2⟩ := hl z (List.mem_of_getElem? hz)
      have hc : ∀ j u, (recCells z.1 z.2)[j]? = some u → w.cell? ⟨g, i * 5 + j, none⟩ = some u := fun j u hj => by
        have := hcells g (by rw [e]; rfl) _ _ (recsCells_get Z i z hz j u hj)
        rwa [addr_add] at this
      exact ⟨g, 0, rfl, k1, z.2, by simpa using hc 0 _ rfl, by simpa using hc 1 _ rfl, k2, by simpa using hc 2 _ rfl, by simpa using hc 3 _ rfl, by simpa using hc 4 _ rfl⟩
theorem addr_addo (b o j : Nat) : (⟨b, o, none⟩ : Addr).add j = ⟨b, o + j, none⟩ := by unfold Addr.add; split <;> simp_all
/-- The cells of changes that may come. -/
theorem recsOpen_cells {w : World} {rv : Value} {R : List Rc} (h : RecsOpen w rv R) : ∃ a c, ∃ Z : List (Rc × Value), rv = .slice a R.length c ∧ R.length ≤ maxLen ∧ Z.map (·.1) = R ∧ (∀ z ∈ Z, z.1.ok ∧ LabsOpen w z.2 z.1.labels) ∧ (∀ ad, a = some ad → ∀ j u, (recsCells Z)[j]? = some u → w.cell? (ad.add j) = some u) ∧ (a = none → R = []) := by
  obtain ⟨a, c, h1, h2, h3⟩ := h
  obtain ⟨Z, k1, k2⟩ := exists_list (R := fun (i : Nat) (z : Rc × Value) => R[i]? = some z.1 ∧ z.1.ok ∧ LabsOpen w z.2 z.1.labels ∧ ∃ b o, a = some ⟨b, o, none⟩ ∧ ∀ (j : Nat) u, (recCells z.1 z.2)[j]? = some u → w.cell? ⟨b, o + i * 5 + j, none⟩ = some u) (List.range R.length) fun i hi => by
    have hi := List.mem_range.1 hi
    obtain ⟨b, o, e0, hok, sl, c0, c1, hL, c2, c3, c4⟩ := h3 i R[i] (List.getElem?_eq_getElem hi)
    refine ⟨(R[i], sl), List.getElem?_eq_getElem hi, hok, hL, b, o, e0, fun j u hj => ?_⟩
    match j, hj with
    | 0, hj => obtain rfl := Option.some.inj hj; exact c0
    | 1, hj => obtain rfl := Option.some.inj hj; exact c1
    | 2, hj => obtain rfl := Option.some.inj hj; exact c2
    | 3, hj => obtain rfl := Option.some.inj hj; exact c3
    | 4, hj => obtain rfl := Option.some.inj hj; exact c4
  have hlen : Z.length = R.length := by simpa using k1
  have hget : ∀ (i : Nat) z, Z[i]? = some z → R[i]? = some z.1 ∧ z.1.ok ∧ LabsOpen w z.2 z.1.labels ∧ ∃ b o, a = some ⟨b, o, none⟩ ∧ ∀ (j : Nat) u, (recCells z.1 z.2)[j]? = some u → w.cell? ⟨b, o + i * 5 + j, none⟩ = some u := fun i z hz => by
    obtain ⟨i', e1, e2⟩ := k2 i z hz
    have hlt := (List.getElem?_eq_some_iff.1 hz).1
    obtain rfl : i = i' := by
      rw [List.getElem?_range (by omega)] at e1
      exact Option.some.inj e1
    exact e2
  refine ⟨a, c, Z, h1, h2, ?_, ?_, ?_, ?_⟩
  · refine List.ext_getElem? fun i => ?_
    rw [List.getElem?_map]
    cases hz : Z[i]? with
    | none =>
      have := List.getElem?_eq_none_iff.1 hz
      rw [List.getElem?_eq_none (by omega)]
      rfl
    | some z =>
      rw [(hget i z hz).1]
      rfl
  · intro z hz
    obtain ⟨i, hi⟩ := List.getElem?_of_mem hz
    obtain ⟨_, h4, h5, _⟩ := hget i z hi
    exact ⟨h4, h5⟩
  · rintro ad rfl j u hj
    have hjl : j < (recsCells Z).length := (List.getElem?_eq_some_iff.1 hj).1
    rw [recsCells_len] at hjl
    have hi : j / 5 < Z.length := by omega
    obtain ⟨_, _, _, b, o, e1, e2⟩ := hget (j / 5) Z[j / 5] (List.getElem?_eq_getElem hi)
    obtain rfl := Option.some.inj e1
    have hm : j % 5 < (recCells Z[j / 5].1 Z[j / 5].2).length := Nat.mod_lt _ (by decide)
    have h5 := recsCells_get Z (j / 5) _ (List.getElem?_eq_getElem hi) (j % 5) _ (List.getElem?_eq_getElem hm)
    rw [show j / 5 * 5 + j % 5 = j by omega, hj] at h5
    rw [addr_addo, show o + j = o + j / 5 * 5 + j % 5 by omega]
    exact e2 (j % 5) u (by rw [h5]; exact List.getElem?_eq_getElem hm)
  · rintro rfl
    by_cases h0 : R.length = 0
    · exact List.length_eq_zero_iff.1 h0
    · obtain ⟨_, _, e1, _⟩ := h3 0 R[0] (List.getElem?_eq_getElem (by omega))
      cases e1
section
variable {H : Type} {enc : TypeId × Value → H} {w : World} {base : Nat} {sp : Nat → Bool} {held : Bool}
set_option maxRecDepth 100000 in
theorem bulk_row {fuel : Nat} {v : Value} {x : DataW H × List MemPlace} (h : DataW.trod enc Tryz.prog w base sp held fuel 25 [v] = some x) : ∃ sa sl sc, v = .slice sa sl sc ∧ sl ≤ Rows.uptoBulk x.1 ∧ (sa = none → sc = 0) := by
  rcases open_slice Tryz.underlying25 h with ⟨e, rfl⟩ | ⟨a, len, cap, m, n, D, Pl, e, _, hl, hm, _, rfl, _⟩
  · obtain rfl : v = .slice none 0 0 := by simpa using e
    exact ⟨none, 0, 0, rfl, Nat.zero_le _, fun _ => rfl⟩
  · obtain rfl : v = .slice (some a) len cap := by simpa using e
    refine ⟨some a, len, cap, rfl, ?_, fun e => by cases e⟩
    have := bulk_len ((List.range len).map D)
    simp only [Rows.uptoBulk]
    rw [List.length_map, List.length_range] at this
    omega
set_option maxRecDepth 100000 in
theorem rows_open {fuel : Nat} {sa : Option Addr} {sl sc : Nat} {x : DataW H × List MemPlace} (h : DataW.trod enc Tryz.prog w base sp held fuel 22 [.slice sa sl sc] = some x) (hb : Rows.uptoBulk x.1 ≤ 1048576) : ∃ LL, RowsOpen w (.slice sa sl sc) LL := by
  rcases open_slice1 Tryz.underlying22 (by kernel_rfl) h with ⟨e, rfl⟩ | ⟨a, len, cap, m, n, V, D, Pl, e, _, hl, hm, hmm, rfl, hx⟩
  · obtain ⟨rfl, rfl, rfl⟩ : sa = none ∧ sl = 0 ∧ sc = 0 := by simpa using e
    exact ⟨[], none, 0, rfl, by simp, fun i R hR => by simp at hR⟩
  · obtain ⟨rfl, rfl, rfl⟩ : sa = some a ∧ sl = len ∧ sc = cap := by simpa using e
    have hlm : sl ≤ m := by rw [hmm]; split <;> omega
    have each : ∀ i ∈ List.range sl, ∃ R : List Rc, R.length ≤ 1048576 ∧ ∃ b o rv, some a = some ⟨b, o, none⟩ ∧ w.cell? ⟨b, o + i, none⟩ = some rv ∧ RecsOpen w rv R ∧ (∀ c, rv = .slice none R.length c → c = 0) := fun i hi => by
      have hi := List.mem_range.1 hi
      obtain ⟨h1, h2⟩ := hx i (by omega)
      obtain ⟨ra, rl, rc, e1, e2, e3⟩ := bulk_row h2
      rw [e1] at h1 h2
      obtain ⟨R, hR⟩ := recs_of_trod h2
      have hbd : Rows.uptoBulk (D i) ≤ 1048576 := by
        have := bulk_part (d := D i) (l := (List.range sl).map D) (List.mem_map.2 ⟨i, List.mem_range.2 hi, rfl⟩)
        simp only [Rows.uptoBulk] at hb
        omega
      obtain ⟨ra', rc', e4, _⟩ := id hR
      obtain ⟨rfl, rfl, rfl⟩ := Value.slice.inj e4
      have hsp : a.spot = none := by
        have h3 := World.cell?_spot (hx 0 (by omega)).1
        simpa [Addr.add] using h3
      obtain ⟨b, o, spot⟩ := a
      have hsp : spot = none := hsp
      subst hsp
      refine ⟨R, by simp only at e2; omega, b, o, _, rfl, by rw [addr_addo] at h1; exact h1, hR, fun c hc => ?_⟩
      obtain ⟨rfl, _, rfl⟩ := Value.slice.inj hc
      exact e3 rfl
    obtain ⟨LL, k1, k2⟩ := exists_list (List.range sl) each
    have hlen : LL.length = sl := by simpa using k1
    refine ⟨LL, some a, sc, by rw [hlen], by omega, fun i R hR => ?_⟩
    obtain ⟨i', f1, f2⟩ := k2 i R hR
    have hlt := (List.getElem?_eq_some_iff.1 hR).1
    obtain rfl : i = i' := by
      rw [List.getElem?_range (by omega)] at f1
      exact Option.some.inj f1
    exact f2
end
end Go.Proofs.YtipdeiiipdnacaaGreat
namespace Go.Proofs.YtipdeiiipdnacaaGreat
open Go.RowKit Go.Maps Go.WideMaps Go.ChangeShapes Go.WideShapes Go.Deep
attribute [local go_sem] bs_toList bs_size

theorem recsCells_oneOpen {w : World} (Z : List (Rc × Value)) (h : ∀ z ∈ Z, z.1.ok ∧ LabsOpen w z.2 z.1.labels) : ∀ u ∈ recsCells Z, u.oneCell' = true := fun u hu => by
  unfold recsCells at hu
  obtain ⟨z, hz, hu⟩ := List.mem_flatMap.1 hu
  obtain ⟨a, c, e, _⟩ := (h z hz).2
  rw [e] at hu
  simp only [recCells, List.mem_cons, List.not_mem_nil, or_false] at hu
  rcases hu with rfl | rfl | rfl | rfl | rfl <;> rfl
set_option maxRecDepth 100000 in
set_option maxHeartbeats 2000000 in
theorem joined_all {w : World} {v : Value} {LL : List (List Rc)} (h : RowsOpen w v LL) (hl : LL.length ≤ 8) :
    Calls Tryz.prog 9 #[v] w fun e w' => ∃ a n c, e = .returned (.slice a n c) ∧ RecsOpen w' (.slice a n c) LL.flatten ∧ Below w.heap.size w w' ∧ n ≤ c ∧ (a = none ∨ ∃ b, a = some ⟨b, 0, none⟩) := by
  obtain ⟨va, vc, rfl, hn, hc⟩ := h
  have HC := Lib.hid hc
  clear hc
  have r0 := World.ownsRow_nil w w.heap.size 51 5
  generalize hwb : w.heap.size = bw at *
  go_enter Tryz.func9, Tryz.ntmps9
  go_wp2_with fail
  go_loopw [3, 4] (fun v3 v4 wr => ∃ (i : Nat) (Z : List (Rc × Value)), i ≤ LL.length ∧ v4 = .int .i64 (i : Int) ∧ wr.ownsRow bw 51 5 v3 Z.length (recsCells Z) ∧ Z.map (·.1) = (LL.take i).flatten ∧ Z.length ≤ i * 1048576 ∧ (∀ z ∈ Z, z.1.ok ∧ LabsOpen w z.2 z.1.labels) ∧ Below bw w wr) (fun _ v4 _ => LL.length - (intOf v4).toNat)
  case atStart => exact ⟨0, [], Nat.zero_le _, rfl, r0, rfl, Nat.zero_le _, fun z hz => (by cases hz), Below.refl _ _⟩
  clear r0
  obtain ⟨i, Z, hi, rfl, hrow, hZm, hZl, hZ, hbw⟩ := hrel
  have HZm := Lib.hid hZm
  clear hZm
  obtain ⟨oa, oc, rfl⟩ := row_form hrow
  by_cases hil : i < LL.length
  · obtain ⟨hRl, b, o, rv, rfl, hcell, hR, hcap⟩ := HC.out i LL[i] (List.getElem?_eq_getElem hil)
    have HTk := Lib.hid (show LL.take i ++ [LL[i]] = LL.take (i + 1) from (List.take_succ_eq_append_getElem hil).symm)
    generalize LL[i] = R at *
    obtain ⟨a, c, Z2, rfl, _, hm2, hZ2, hcs, hnil⟩ := recsOpen_cells hR
    have hl2 : Z2.length = R.length := by rw [← hm2, List.length_map]
    have hcell' := (Below.cell hbw (by subst hwb; exact World.block_lt_of_cell? _ _ hcell)).trans hcell
    have ⟨i0, hin, hz0, hz1, hz2⟩ := info_parts (show (Tryz.prog.info? 51).map (fun i => (i.zero, i.size, i.bytes)) = some (some (.agg #[.int .i64 0, .slice none 0 0, .int .i64 0, .int .i64 0, .int .u64 0]), 5, 56) by kernel_rfl)
    have hB : bw ≤ wr.heap.size := by subst hwb; exact hbw.size
    have hfin : (Z ++ Z2).map (·.1) = (LL.take (i + 1)).flatten := by
      rw [← HTk.out, List.map_append, HZm.out, hm2]
      simp
    have HFin := Lib.hid hfin
    have hrec : recsCells (Z ++ Z2) = recsCells Z ++ recsCells Z2 := by unfold recsCells; rw [List.flatMap_append]
    have HRec := Lib.hid hrec
    clear hfin hrec
    cases a with
    | none =>
      obtain rfl := hnil rfl
      obtain rfl := hcap c rfl
      obtain rfl := List.length_eq_zero_iff.1 hl2
      clear hcs hcell hR
      go_wp2_with (at_builtin; refine wpList_append_own_none rfl _ _ 25 rfl bw 51 i0 5 Tryz.underlying25 hin _ _ _ rfl hrow rfl ?_)
      go_roundw
      case rel =>
        refine ⟨i + 1, Z, hil, by go_num, hrow, ?_, Nat.le_trans hZl (Nat.mul_le_mul_right _ (Nat.le_succ i)), hZ, hbw⟩
        rw [← HFin.out, List.append_nil]
      case measure => simp [intOf]; omega
    | some ad =>
      have hcs' : ∀ j u, (recsCells Z2)[j]? = some u → wr.cell? (ad.add j) = some u := fun j u hj => by
        have h1 := hcs ad rfl j u hj
        exact (Below.cell hbw (by subst hwb; exact World.block_lt_of_cell? _ _ h1)).trans h1
      have H1 := Lib.hid (recsCells_oneOpen Z2 hZ2)
      have hlen := recsCells_len Z2
      rw [hl2] at hlen
      clear hcs hcell hR hnil hcap
      go_wp2_with (at_builtin; refine wpList_append_own_at _ rfl _ _ 25 rfl bw 51 i0 (.agg #[.int .i64 0, .slice none 0 0, .int .i64 0, .int .i64 0, .int .u64 0]) 5 56 Tryz.underlying25 hin hz0 hz1 hz2 rfl (by decide) _ _ _ rfl hrow ad R.length c (recsCells Z2) rfl hlen hcs' H1.out (by unfold maxLen; omega) (by omega) hB ?_; intro v' w8 hown' hgrow hnil hloc)
      go_roundw
      case rel =>
        refine ⟨i + 1, Z ++ Z2, by omega, by go_num, ?_, HFin.out, by rw [List.length_append]; omega, fun z hz => (List.mem_append.1 hz).elim (hZ z) (hZ2 z), ?_⟩
        · rw [HRec.out, List.length_append, hl2]
          exact hown'
        · exact hbw.trans (Kept.below (Kept.of_grown (S := fun k => (Value.slice oa Z.length oc).ownBlock = some k) hgrow fun k e => e) hB (fun j hj => (hrow.lt j hj).1))
      case measure => simp [intOf]; omega
  · obtain rfl : i = LL.length := by omega
    rw [List.take_length] at HZm
    go_wp2_with fail
    go_ret
    have hform : Z.length ≤ oc ∧ (oa = none ∨ ∃ b, oa = some ⟨b, 0, none⟩) := by
      rcases hrow.2 with ⟨e, e0⟩ | ⟨g, cap, _, e, _, _, e1, _⟩
      · exact ⟨by omega, .inl (Value.slice.inj e).1⟩
      · obtain ⟨rfl, _, rfl⟩ := Value.slice.inj e
        exact ⟨e1, .inr ⟨g, rfl⟩⟩
    refine ⟨oa, Z.length, oc, rfl, ?_, hwb ▸ hbw, hform⟩
    rw [← HZm.out]
    exact recsOpen_row hrow (by unfold maxLen; omega) fun z hz => ⟨(hZ z hz).1, (hZ z hz).2.below (hwb ▸ hbw)⟩
theorem joined_any {w : World} {v : Value} {LL : List (List Rc)} (h : RowsOpen w v LL) (hl : LL.length ≤ 8) :
    Calls Tryz.prog 9 #[v] w fun e w' => ∃ a n c, e = .returned (.slice a n c) ∧ RecsOpen w' (.slice a n c) LL.flatten ∧ Below w.heap.size w w' :=
  (joined_all h hl).mono fun _ _ ⟨a, n, c, h1, h2, h3, _⟩ => ⟨a, n, c, h1, h2, h3⟩
end Go.Proofs.YtipdeiiipdnacaaGreat
namespace Go.Proofs.YtipdeiiipdnacaaGreat

theorem smallPut_tight : ∀ (R : List Rc) (K : List (List UInt8)) (s : List UInt8), (∀ x ∈ R, (keyB x.labels).length ≤ 2000) → (smallPut K R).1 = some s → s.length ≤ R.length * 2100
  | [], K, s, _, h => by
    obtain rfl := Option.some.inj h
    simp
  | x :: R, K, s, hk, h => by
    unfold smallPut at h
    split at h
    · cases h
    · simp only at h
      cases hs : (smallPut (smallOne K x).2 R).1 with
      | none => rw [hs] at h; cases h
      | some s2 =>
        rw [hs] at h
        obtain rfl := Option.some.inj h
        have ih := smallPut_tight R _ s2 (fun y hy => hk y (List.mem_cons_of_mem _ hy)) hs
        have h1 := Num.small_len (smallOne K x).1.length
        have h2 := smallOne_len K x
        have h3 := hk x List.mem_cons_self
        rw [List.length_append, List.length_cons]
        unfold framePut
        rw [checkedB_len, Num.text_len]
        omega
theorem walPut_tight (g : Int) (K : List (List UInt8)) (R : List Rc) : (walPut g K R).1.length ≤ 20100 + R.length * 2100 := by
  unfold walPut
  split
  · exact Nat.zero_le _
  · split
    · exact Nat.zero_le _
    · rename_i hf
      have hv := firstE_zero g R (by simpa using hf)
      split
      · exact Nat.zero_le _
      · rename_i s K' hp
        simp only
        unfold putBy at hp
        split at hp
        · obtain ⟨h1, _⟩ := Prod.mk.inj hp
          obtain rfl := Option.some.inj h1
          rw [fixPut_bd R fun x hx => (right_fits x (valid_right x g (hv x hx))).1.2]
          omega
        · split at hp
          · have := smallPut_tight R K s (fun x hx => (right_fits x (valid_right x g (hv x hx))).2.2.2.1) (by rw [hp])
            omega
          · obtain ⟨h1, _⟩ := Prod.mk.inj hp
            split at h1
            · rename_i hb
              obtain rfl := Option.some.inj h1
              unfold batPut at hb ⊢
              split
              · exact Nat.zero_le _
              · rename_i hne
                rw [if_neg hne] at hb
                have hb2 : (Num.small R.length ++ (batLoop K 0 0 R).1).length ≤ 20000 := by simpa using hb
                have h2 := Num.small_len (Num.small R.length ++ (batLoop K 0 0 R).1).length
                simp only
                unfold framePut
                rw [checkedB_len, Num.text_len]
                omega
            · cases h1
theorem segB_tight (g : Int) : ∀ (LL : List (List Rc)) (K K' : List (List UInt8)) (s : List UInt8), segB g K LL = some (s, K') → s.length ≤ LL.length * 20100 + LL.flatten.length * 2100 ∧ K'.length ≤ K.length + LL.flatten.length ∧ ∀ x ∈ LL.flatten, validE x g = 0
  | [], K, K', s, h => by
    obtain ⟨rfl, rfl⟩ := Prod.mk.inj (Option.some.inj h)
    exact ⟨Nat.zero_le _, Nat.le_refl _, fun x hx => by simp at hx⟩
  | R :: LL, K, K', s, h => by
    unfold segB at h
    cases ho : (walPut g K R).2.1 with
    | none => rw [ho] at h; cases h
    | some K1 =>
      rw [ho] at h
      simp only at h
      cases hs : segB g K1 LL with
      | none => rw [hs] at h; cases h
      | some z =>
        obtain ⟨s2, K2⟩ := z
        rw [hs] at h
        obtain ⟨rfl, rfl⟩ := Prod.mk.inj (Option.some.inj h)
        obtain ⟨_, hp, hv, _⟩ := walPut_some g K R (walPut g K R).1 K1 (walPut g K R).2.2 (by rw [← ho])
        obtain ⟨ih, ih3, ih2⟩ := segB_tight g LL K1 K2 s2 hs
        have h1 := walPut_tight g K R
        have hkk := (putBy_keys g K R fun x hx => (right_fits x (valid_right x g (hv x hx))).2.2.2.1).1
        rw [hp] at hkk
        rw [List.flatten_cons, List.length_append, List.length_append, List.length_cons]
        simp only at hkk ⊢
        refine ⟨by omega, by omega, fun x hx => (List.mem_append.1 hx).elim (hv x) (ih2 x)⟩
theorem firstE_all (g : Int) : ∀ R : List Rc, (∀ x ∈ R, validE x g = 0) → firstE g R = 0
  | [], _ => rfl
  | x :: R, h => by
    unfold firstE
    rw [if_pos (h x List.mem_cons_self)]
    exact firstE_all g R fun y hy => h y (List.mem_cons_of_mem _ hy)
/-- Rows that are put are read; and put once more, behind them, there is no room for them in one frame, or they are read twice. -/
theorem back_law (g : Int) (hk : knownB g = true) (LL : List (List Rc)) (s : List UInt8) (K : List (List UInt8)) (h : segB g [] LL = some (s, K)) (hok : ∀ x ∈ LL.flatten, x.ok) (h40 : LL.flatten.length ≤ 40) (h8 : LL.length ≤ 8) :
    walRead (headB magicB g.toNat 0 ++ s) = (some ⟨g, 0, LL.flatten, K, ((headB magicB g.toNat 0 ++ s).length : Int), false⟩, 0) ∧ (headB magicB g.toNat 0 ++ s).length ≤ 300000 ∧ K.length ≤ 40 ∧ (walPut g K LL.flatten).1.length ≤ 300000 ∧
      ((walPut g K LL.flatten).2.1 = none → (walPut g K LL.flatten).1 = [] ∧ (walPut g K LL.flatten).2.2 = 7) ∧
      ∀ K2, (walPut g K LL.flatten).2.1 = some K2 → (walPut g K LL.flatten).2.2 = 0 ∧ walRead (headB magicB g.toNat 0 ++ s ++ (walPut g K LL.flatten).1) = (some ⟨g, 0, LL.flatten ++ LL.flatten, K2, ((headB magicB g.toNat 0 ++ s ++ (walPut g K LL.flatten).1).length : Int), false⟩, 0) := by
  have hok2 : ∀ R ∈ LL, (∀ x ∈ R, x.ok) ∧ R.length ≤ 20000 := fun R hR => ⟨fun x hx => hok x (List.mem_flatten.2 ⟨R, hR, hx⟩), by have := (List.sublist_flatten_of_mem hR).length_le; omega⟩
  obtain ⟨CC, d1, d2, d3, d4, d5, d6⟩ := rows_chain g LL [] K s h hok2 (by rw [List.length_nil]; omega)
  obtain ⟨t1, tk, t2⟩ := segB_tight g LL [] K s h
  rw [List.length_nil] at tk
  have hall : recsC CC.flatten = LL.flatten := by rw [flat_recs, d3]
  have r1 := chain_read d2
  rw [d4, hall] at r1
  have w1 := walRead_head g hk s LL.flatten K [] false r1
  have hw := walPut_tight g K LL.flatten
  refine ⟨by rw [w1]; simp, by rw [List.length_append, headB_ten]; omega, by omega, by omega, fun hn => ?_, fun K2 hs => ?_⟩
  · unfold walPut at hn ⊢
    rw [if_neg (by rw [hk]; decide), if_neg (by rw [firstE_all g _ t2]; decide)] at hn ⊢
    split
    · exact ⟨rfl, rfl⟩
    · rename_i s3 K3 hp
      rw [hp] at hn
      cases hn
  · obtain ⟨_, hp, hv, he⟩ := walPut_some g K LL.flatten (walPut g K LL.flatten).1 K2 (walPut g K LL.flatten).2.2 (by rw [← hs])
    obtain ⟨l, c1, c2, c3, _⟩ := chain_put g hk LL.flatten K _ K2 hp (fun x hx => ⟨hv x hx, hok x hx⟩) (by omega) (by omega)
    have r2 := chain_read (d2.app c1)
    rw [bytesC_app, recsC_app, d4, hall, c2, c3] at r2
    have w2 := walRead_head g hk _ (LL.flatten ++ LL.flatten) K2 [] false r2
    rw [← List.append_assoc] at w2
    exact ⟨he, by rw [w2]; simp⟩
end Go.Proofs.YtipdeiiipdnacaaGreat
namespace Go.Proofs.YtipdeiiipdnacaaGreat
open Go.RowKit

section
variable {R : World → World → Prop} {P : Program} {ops : Array Oper} {w0 : World} {n : Nat} {ds : List Deferred} {F : Act → World → Prop} {rest : List Oper} {H : List (Tmp × Held)} {a : Act} {o : Oper}

/-- All slots that an operation looks at but one are open. -/
def looksBut (ops : Array Oper) (H : List (Tmp × Held)) (d : Tmp) (o : Oper) : Bool := (o.looksAt ops).all fun t => t == d || (heldBy H t).isNone
def guardFree (ops : Array Oper) (H : List (Tmp × Held)) (d : Tmp) (o : Oper) : Bool := match o.guard with
  | none => true
  | some (g, _) => match (ops[g]?).bind (·.dst) with
    | none => true
    | some t => t != d && (heldBy H t).isNone
theorem eval_but {d : Tmp} (hz : d < a.tmps.size) (hl : looksBut ops H d o = true) {c : Act} {w : World} (h : ∀ t ∈ o.looksAt ops, fits H a t (c.eval (.tmp t)) w) : ∀ t ∈ o.looksAt ops, c.eval (.tmp t) = (a.put (some d) (c.eval (.tmp d))).eval (.tmp t) := fun t ht => by
  by_cases hd : d = t
  · subst hd
    rw [eval_put_same hz]
  · rw [eval_put_ne hd]
    have h1 := h t ht
    have h2 := List.all_eq_true.1 hl t ht
    unfold fits at h1
    cases he : heldBy H t with
    | none => rw [he] at h1; exact h1
    | some q =>
      rw [he] at h2
      simp only [Option.isNone_some, Bool.or_false, beq_iff_eq] at h2
      exact absurd h2.symm hd
theorem wanted_but {d : Tmp} (hg : guardFree ops H d o = true) {c : Act} {w : World} (h : ∀ t ∈ o.looksAt ops, fits H a t (c.eval (.tmp t)) w) : Region.wanted o (yielded ops c.tmps) = Region.wanted o (yielded ops a.tmps) :=
  wanted_of_fits fun g b u hgd hu => by
    unfold guardFree at hg
    rw [hgd] at hg
    simp only [hu] at hg
    have h1 := h u (guard_looks hgd hu)
    unfold fits at h1
    cases he : heldBy H u with
    | none => rw [he] at h1; exact h1
    | some q => rw [he] at hg; simp at hg
/-- A call, one of its arguments hidden; the answer is known. -/
theorem lex_callx (d : Tmp) {r : Held} {v : Value} (hw : Region.wanted o (yielded ops a.tmps) = true) (hns : ∀ cs b, o.op ≠ .select cs b) (hh : heldBy H d = some r) (hz : d < a.tmps.size) (hm : (o.looksAt ops).contains d = true) (hl : looksBut ops H d o = true) (hg : guardFree ops H d o = true) (hd : writesFree H a o.dst = true)
    (hr : ∀ x w, R w0 w → r x w → ∃ f args, (execOp (a.put (some d) x).eval o).run P w = .ok (.enter f args) w ∧ Calls P f args w fun e w' => e = .returned v ∧ R w w')
    (h : lexAt R P ops w0 n ds F rest H (a.put o.dst v)) : lexAt R P ops w0 n ds F (o :: rest) H a := by
  refine ⟨fun x _ => x = v, fun _ _ _ h _ => h, fun c w hb hs => .inr ⟨by rw [wanted_but hg hs]; exact hw, fun K Q' hK => ?_⟩, by rw [fits_put hd]; exact h⟩
  have h1 := hs d (List.contains_iff_mem.1 hm)
  unfold fits at h1
  rw [hh] at h1
  obtain ⟨f, args, h2, h3⟩ := hr _ _ hb h1
  unfold Oper.wp
  rw [exec_of_fits hns (eval_but hz hl hs), h2]
  exact h3.mono fun e w' ⟨e1, e2⟩ => by subst e1; exact hK _ _ e2 rfl
/-- A call, one of its arguments hidden; the answer is hidden. -/
theorem lex_callxh (d : Tmp) {e : Tmp} {r s : Held} (hk : s.keeps R) (hw : Region.wanted o (yielded ops a.tmps) = true) (hns : ∀ cs b, o.op ≠ .select cs b) (hh : heldBy H d = some r) (hz : d < a.tmps.size) (hm : (o.looksAt ops).contains d = true) (hl : looksBut ops H d o = true) (hg : guardFree ops H d o = true) (hd : o.dst = some e)
    (hr : ∀ x w, R w0 w → r x w → ∃ f args, (execOp (a.put (some d) x).eval o).run P w = .ok (.enter f args) w ∧ Calls P f args w fun e w' => ∃ y, e = .returned y ∧ R w w' ∧ s y w')
    (h : lexAt R P ops w0 n ds F rest ((e, s) :: H) a) : lexAt R P ops w0 n ds F (o :: rest) H a := by
  refine lex_any hk (fun c w hb hs => .inr ⟨by rw [wanted_but hg hs]; exact hw, fun K Q' hK => ?_⟩) hd h
  have h1 := hs d (List.contains_iff_mem.1 hm)
  unfold fits at h1
  rw [hh] at h1
  obtain ⟨f, args, h2, h3⟩ := hr _ _ hb h1
  unfold Oper.wp
  rw [exec_of_fits hns (eval_but hz hl hs), h2]
  exact h3.mono fun e w' ⟨y, e1, e2, e3⟩ => by subst e1; exact hK _ _ e2 e3
end
end Go.Proofs.YtipdeiiipdnacaaGreat
namespace Go.Proofs.YtipdeiiipdnacaaGreat
open Go.RowKit Go.Maps Go.WideMaps
attribute [local go_sem] bs_toList bs_size

/-- A block of a writer. -/
def isW (w : World) (k : Nat) : Prop := ∃ h p l c, Blk w k 32 #[.int .i64 h, .slice p l c]
structure WR (B : Nat) (a b : World) : Prop where
  os : b.os = a.os
  tape : b.tape = a.tape
  output : b.output = a.output
  size : a.heap.size ≤ b.heap.size
  block : ∀ k, k < a.heap.size → b.heap[k]? = a.heap[k]? ∨ (B ≤ k ∧ isW a k ∧ isW b k)
section
variable {B : Nat}
theorem isW_cell {w : World} {k o : Nat} {v : Value} (h : isW w k) (hc : w.cell? ⟨k, o, none⟩ = some v) : (∃ u, v = .int .i64 u) ∨ ∃ p l c, v = .slice p l c := by
  obtain ⟨_, _, _, _, h⟩ := h
  have := (Blk.cell h o).symm.trans hc
  match o, this with
  | 0, this => exact .inl ⟨_, (Option.some.inj this).symm⟩
  | 1, this => exact .inr ⟨_, _, _, (Option.some.inj this).symm⟩
  | o + 2, this => simp at this
theorem WR.of_below {a b : World} (h : Below a.heap.size a b) : WR B a b := ⟨h.os, h.tape, h.output, h.size, fun k hk => .inl (h.block k hk)⟩
theorem WR.below {a b : World} (h : WR B a b) (hB : B ≤ a.heap.size) : Below B a b :=
  ⟨h.os, h.tape, h.output, h.size, fun k hk => (h.block k (by omega)).resolve_right fun e => by have := e.1; omega⟩
theorem isW_same {a b : World} {k : Nat} (h : b.heap[k]? = a.heap[k]?) (hk : isW a k) : isW b k := by
  obtain ⟨h1, h2, h3, h4, h5⟩ := hk
  exact ⟨h1, h2, h3, h4, by unfold Blk at *; rw [h]; exact h5⟩
instance : Turns (WR B) where
  refl w := WR.of_below (Below.refl _ w)
  trans {a b c} h k := ⟨k.os.trans h.os, k.tape.trans h.tape, k.output.trans h.output, Nat.le_trans h.size k.size, fun i hi => by
    rcases h.block i hi with e | ⟨e1, e2, e3⟩
    · rcases k.block i (Nat.lt_of_lt_of_le hi h.size) with f | ⟨f1, f2, f3⟩
      · exact .inl (f.trans e)
      · exact .inr ⟨f1, isW_same e.symm f2, f3⟩
    · rcases k.block i (Nat.lt_of_lt_of_le hi h.size) with f | ⟨f1, f2, f3⟩
      · exact .inr ⟨e1, e2, isW_same f e3⟩
      · exact .inr ⟨e1, e2, f3⟩⟩
  drew w := WR.of_below (Below.refl _ w).drew
theorem wr_cell {w : World} {p : Addr} {v : Value} (h : w.cell? p = some v) : ∀ x : RW (WR w.heap.size) w, x.w.cell? p = some v := fun x => ((x.is.below (Nat.le_refl _)).cell (World.block_lt_of_cell? _ _ h)).trans h
theorem WR.cell {a b : World} {k o : Nat} {v : Value} (h : WR B a b) (hc : a.cell? ⟨k, o, none⟩ = some v) (h1 : ∀ u, v ≠ .int .i64 u) (h2 : ∀ p l c, v ≠ .slice p l c) : b.heap[k]? = a.heap[k]? := by
  rcases h.block k (World.block_lt_of_cell? _ _ hc) with e | ⟨_, e, _⟩
  · exact e
  · rcases isW_cell e hc with ⟨u, e⟩ | ⟨p, l, c, e⟩
    · exact (h1 u e).elim
    · exact (h2 p l c e).elim
theorem LabsAt.turned {a b : World} {v : Value} {L : List Lb} (h : WR B a b) (hl : LabsAt a v L) : LabsAt b v L := by
  obtain ⟨p, c, h1, h2, h3⟩ := hl
  refine ⟨p, c, h1, h2, fun i x hx => ?_⟩
  obtain ⟨h4, h5, k, o, h6, h7, h8⟩ := h3 i x hx
  have e := h.cell h7 (fun u e => by cases e) (fun p l c e => by cases e)
  exact ⟨h4, h5, k, o, h6, (World.cell?_of_block e).trans h7, (World.cell?_of_block e).trans h8⟩
theorem RecsAt.turned {a b : World} {v : Value} {R : List Rc} (h : WR B a b) (hl : RecsAt a v R) : RecsAt b v R := by
  obtain ⟨p, c, h1, h2, h3⟩ := hl
  refine ⟨p, c, h1, h2, fun i x hx => ?_⟩
  obtain ⟨k, o, h4, h5, sl, c0, c1, hL, c2, c3, c4⟩ := h3 i x hx
  have e := h.cell c4 (fun u e => by cases e) (fun p l c e => by cases e)
  exact ⟨k, o, h4, h5, sl, (World.cell?_of_block e).trans c0, (World.cell?_of_block e).trans c1, hL.turned h, (World.cell?_of_block e).trans c2, (World.cell?_of_block e).trans c3, (World.cell?_of_block e).trans c4⟩
theorem KeysAt.turned {a b : World} {v : Value} {K : List (List UInt8)} (h : WR B a b) (hl : KeysAt a v K) : KeysAt b v K := by
  obtain ⟨p, c, h1, h2, h3⟩ := hl
  refine ⟨p, c, h1, h2, fun i x hx => ?_⟩
  obtain ⟨h4, k, o, h5, h6⟩ := h3 i x hx
  exact ⟨h4, k, o, h5, (World.cell?_of_block (h.cell h6 (fun u e => by cases e) (fun p l c e => by cases e))).trans h6⟩
/-- Changes in a hidden slot. -/
def recsHeld (R : List Rc) : Held := fun x w => ∃ a n c, x = .slice a n c ∧ RecsAt w (.slice a n c) R
theorem recsHeld_keeps {R : List Rc} : (recsHeld R).keeps GrowR := fun _ _ _ ⟨a, n, c, h1, h2⟩ hb => ⟨a, n, c, h1, h2.below hb⟩
theorem recsHeld_turned {R : List Rc} : (recsHeld R).keeps (WR B) := fun _ _ _ ⟨a, n, c, h1, h2⟩ hb => ⟨a, n, c, h1, h2.turned hb⟩
/-- What put answers: its bytes and its error are known. -/
def putW (t : List UInt8) (er : Int) : Held := fun x _ => ∃ h p l c, x = .tuple #[.string (bs t), .agg #[.int .i64 h, .slice p l c], .int .i64 er]
theorem putW_keeps {t : List UInt8} {er : Int} : (putW t er).keeps (WR B) := fun _ _ _ h _ => h
def writW : Held := fun x _ => ∃ h p l c, x = .agg #[.int .i64 h, .slice p l c]
theorem writW_keeps : writW.keeps (WR B) := fun _ _ _ h _ => h
def blkW (B : Nat) : Held := fun x w => ∃ k, x = .pointer (some ⟨k, 0, none⟩) ∧ B ≤ k ∧ k < w.heap.size ∧ isW w k
theorem blkW_keeps : (blkW B).keeps (WR B) := fun x w w' ⟨k, h1, h2, h3, h4⟩ h => by
  refine ⟨k, h1, h2, Nat.lt_of_lt_of_le h3 h.size, ?_⟩
  rcases h.block k h3 with e | ⟨_, _, e⟩
  · exact isW_same e h4
  · exact e
theorem put_w {W W' : World} {g : Int} {kv : Value} {K : List (List UInt8)} {R : List Rc} {e : Ending} (h : PutIs W g kv K R e W') (hK : KeysAt W kv K) : Below W.heap.size W W' ∧ ∃ x, e = .returned x ∧ putW (walPut g K R).1 (walPut g K R).2.2 x W' := by
  unfold PutIs at h
  obtain ⟨hb, h⟩ := h
  refine ⟨hb, ?_⟩
  obtain ⟨a, c, rfl, _⟩ := id hK
  rcases walPut_shape g K R with ⟨h1, h2, _⟩ | ⟨K', h1, h2⟩
  · rw [h1] at h
    exact ⟨_, h, g, a, K.length, c, by rw [h2]; rfl⟩
  · rw [h1] at h
    obtain ⟨kv', he, hk, _⟩ := h
    obtain ⟨a2, c2, rfl, _⟩ := id hk
    exact ⟨_, he, g, a2, K'.length, c2, by rw [h2]; rfl⟩
end
end Go.Proofs.YtipdeiiipdnacaaGreat
namespace Go.Proofs.YtipdeiiipdnacaaGreat
open Go.RowKit Go.Maps Go.WideMaps Go.ChangeShapes Go.WideShapes Go.Deep
attribute [local go_sem] bs_toList bs_size

theorem recsOpen_ok {w : World} {v : Value} {R : List Rc} (h : RecsOpen w v R) : ∀ x ∈ R, x.ok := by
  obtain ⟨_, _, _, _, h⟩ := h
  intro x hx
  obtain ⟨i, hi⟩ := List.mem_iff_getElem?.mp hx
  obtain ⟨_, _, _, h2⟩ := h i x hi
  exact h2.1
theorem recsAt_form {w : World} {a : Option Addr} {n c : Nat} {R : List Rc} (h : RecsOpen w (.slice a n c) R) : n = R.length := by
  obtain ⟨_, _, e, _⟩ := h
  exact (Value.slice.inj e).2.1
set_option maxRecDepth 100000 in
set_option maxHeartbeats 4000000 in
theorem WalBack_walk {H : Type} {enc : TypeId × Value → H} {d1 : DataW H} {p1 : List MemPlace} (g : Int) (sa1 : Option Addr) (sl1 sc1 : Nat) (W : World)
    (g1 : -9223372036854775808 ≤ g) (g2 : g ≤ 9223372036854775807)
    (h1 : DataW.Trod enc Tryz.prog W 0 (fun _ => true) true 22 (.slice sa1 sl1 sc1) d1 p1) (hk : Rows.uptoBulk d1 ≤ 1048576) :
    Calls Tryz.prog 3 #[.int .i64 g, .slice sa1 sl1 sc1] W fun e w' => e = .returned (.bool true) ∧ Below W.heap.size W w' := by
  obtain ⟨_, h1⟩ := h1
  obtain ⟨LL, hL⟩ := rows_open h1 hk
  clear h1 hk
  obtain ⟨_, _, e1, hmx, _⟩ := id hL
  obtain ⟨rfl, rfl, rfl⟩ := Value.slice.inj e1
  clear e1
  have q0 := Lib.hid (works_any W)
  by_cases h8 : LL.length ≤ 8
  · have hd : decide ((LL.length : Int) ≤ 8) = true := by simp; omega
    have hd' : decide (LL.length ≤ 8) = true := by simpa using h8
    go_enter Tryz.func3, Tryz.ntmps3
    go_wp2_with fail
    refine q0.out.mono ?_
    rintro e W1 ⟨rfl, b1⟩
    have hL1 := hL.below b1
    have q1 := Lib.hid (joined_any hL1 h8)
    clear q0 hL
    go_wp2_with fail
    refine q1.out.mono ?_
    rintro e W2 ⟨ja, jn, jc, rfl, hJ, b2⟩
    have hL2 := hL1.below b2
    have B2 := b1.trans (b2.mono b1.size)
    have hok := recsOpen_ok hJ
    have q2 := Lib.hid (FewRecs_any hJ)
    clear q1 hL1 b1 b2
    go_wp2_with fail
    refine q2.out.mono ?_
    rintro e W3 ⟨f1, rfl, b3, hf1⟩
    have HF1 := Lib.hid hf1
    have hL3 := hL2.below b3
    have B3 := B2.trans (b3.mono B2.size)
    clear q2 hL2 hJ B2 b3 hf1
    cases f1 with
    | false =>
      go_wp2
      go_ret
      exact ⟨rfl, B3⟩
    | true =>
      have hfew := HF1.out rfl
      have h40 := hfew.1
      have q3 := Lib.hid (segment_any g _ LL W3 (hL3.at (by omega) hfew) g1 g2)
      have HFew := Lib.hid hfew
      clear HF1 hfew
      go_wp2_with fail
      refine q3.out.mono ?_
      rintro e W4 ⟨⟨st, a1, c1, n1, a2, c2, n2, p, rfl, hS⟩, b4⟩
      have HS := Lib.hid hS
      have hL4 := hL3.below b4
      have B4 := B3.trans (b4.mono B3.size)
      clear hS q3 hL3 B3 b4
      cases p with
      | false =>
        go_wp2
        go_ret
        exact ⟨rfl, B4⟩
      | true =>
        obtain ⟨ka, s, K, hs, hst, _⟩ := HS.out rfl
        obtain ⟨w1, l1, lk, l2, x1, x2⟩ := back_law g ka LL s K hs hok h40 h8
        rw [← hst] at w1 l1 x2
        have X0 := Lib.hid w1
        have X1 := Lib.hid x1
        have X2 := Lib.hid x2
        clear w1 x1 x2 hst hs HS hok
        have QJ := Lib.hid (fun (W : World) (hL : RowsOpen W (.slice sa1 LL.length sc1) LL) => joined_any hL h8)
        generalize LL.flatten = J at *
        have q4 := Lib.hid (Read_any st W4 (by omega))
        go_wp2_with fail
        refine q4.out.mono ?_
        rintro e W5 ⟨hI, b5⟩
        obtain ⟨u1, v1, u2, v2, rfl, hr5, hk5⟩ := readIs_some hI X0.out
        have kx := Blk.new W5 34 #[.int .i64 0, .slice u1 J.length v1, .int .i64 (st.length : Int), .bool false, .int .i64 g, .slice u2 K.length v2]
        have b6 := one_alloc W5 (.cells #[.int .i64 0, .slice u1 J.length v1, .int .i64 (st.length : Int), .bool false, .int .i64 g, .slice u2 K.length v2] 34)
        have b56 := b5.trans (b6.mono b5.size)
        have B6 := B4.trans (b56.mono B4.size)
        have hL6 := hL4.below b56
        have hr6 := hr5.below b6
        have hk6 := hk5.below b6
        obtain ⟨⟨c0, c1, c2, c3, c4, c5⟩, _⟩ := cells6 kx
        clear hI q4 hL4 B4 b5 b6 b56 hr5 hk5
        have k0 := grow_cell c0
        have k1 := grow_cell c1
        have k2 := grow_cell c2
        have k3 := grow_cell c3
        have k4 := grow_cell c4
        go_wp2_with fail
        generalize hW6 : W5.alloc (.cells #[.int .i64 0, .slice u1 J.length v1, .int .i64 (st.length : Int), .bool false, .int .i64 g, .slice u2 K.length v2] 34) = W6 at *
        refine wp_region_at (R := GrowR) (by kernel_rfl) (by kernel_rfl) ?_
        (refine lex_one (by kernel_rfl) (by kernel_rfl) (by kernel_rfl) (fun K hK => ?_); go_big_quiet_step (fail); refine wpQuiet_nil (hK _ ?_); clear hK K); (refine lex_one (by kernel_rfl) (by kernel_rfl) (by kernel_rfl) (fun K hK => ?_); go_big_quiet_step (fail); refine wpQuiet_nil (hK _ ?_); clear hK K); (refine lex_one (by kernel_rfl) (by kernel_rfl) (by kernel_rfl) (fun K hK => ?_); go_big_quiet_step (fail); refine wpQuiet_nil (hK _ ?_); clear hK K); (refine lex_one (by kernel_rfl) (by kernel_rfl) (by kernel_rfl) (fun K hK => ?_); go_big_quiet_step (fail); refine wpQuiet_nil (hK _ ?_); clear hK K); (refine lex_one (by kernel_rfl) (by kernel_rfl) (by kernel_rfl) (fun K hK => ?_); go_big_quiet_step (fail); refine wpQuiet_nil (hK _ ?_); clear hK K); (refine lex_one (by kernel_rfl) (by kernel_rfl) (by kernel_rfl) (fun K hK => ?_); go_big_quiet_step (fail); refine wpQuiet_nil (hK _ ?_); clear hK K); (refine lex_one (by kernel_rfl) (by kernel_rfl) (by kernel_rfl) (fun K hK => ?_); go_big_quiet_step (fail); refine wpQuiet_nil (hK _ ?_); clear hK K); (refine lex_one (by kernel_rfl) (by kernel_rfl) (by kernel_rfl) (fun K hK => ?_); go_big_quiet_step (fail); refine wpQuiet_nil (hK _ ?_); clear hK K); (refine lex_one (by kernel_rfl) (by kernel_rfl) (by kernel_rfl) (fun K hK => ?_); go_big_quiet_step (fail); refine wpQuiet_nil (hK _ ?_); clear hK K); (refine lex_one (by kernel_rfl) (by kernel_rfl) (by kernel_rfl) (fun K hK => ?_); go_big_quiet_step (fail); refine wpQuiet_nil (hK _ ?_); clear hK K)
        (refine lex_val (v := .int .i64 (st.length : Int)) (by kernel_rfl) (fun _ _ h => by cases h) (by kernel_rfl) (by kernel_rfl) (fun _ _ => by go_simp) (lex_put (type := 0) (pos := "") (fun K hK => ?_)); go_big_quiet_step (fail); refine wpQuiet_nil (hK _ ?_); clear hK K)
        (refine lex_one (by kernel_rfl) (by kernel_rfl) (by kernel_rfl) (fun K hK => ?_); go_big_quiet_step (fail); refine wpQuiet_nil (hK _ ?_); clear hK K); (refine lex_one (by kernel_rfl) (by kernel_rfl) (by kernel_rfl) (fun K hK => ?_); go_big_quiet_step (fail); refine wpQuiet_nil (hK _ ?_); clear hK K); (refine lex_one (by kernel_rfl) (by kernel_rfl) (by kernel_rfl) (fun K hK => ?_); go_big_quiet_step (fail); refine wpQuiet_nil (hK _ ?_); clear hK K); (refine lex_one (by kernel_rfl) (by kernel_rfl) (by kernel_rfl) (fun K hK => ?_); go_big_quiet_step (fail); refine wpQuiet_nil (hK _ ?_); clear hK K); (refine lex_one (by kernel_rfl) (by kernel_rfl) (by kernel_rfl) (fun K hK => ?_); go_big_quiet_step (fail); refine wpQuiet_nil (hK _ ?_); clear hK K); (refine lex_one (by kernel_rfl) (by kernel_rfl) (by kernel_rfl) (fun K hK => ?_); go_big_quiet_step (fail); refine wpQuiet_nil (hK _ ?_); clear hK K); (refine lex_one (by kernel_rfl) (by kernel_rfl) (by kernel_rfl) (fun K hK => ?_); go_big_quiet_step (fail); refine wpQuiet_nil (hK _ ?_); clear hK K); (refine lex_one (by kernel_rfl) (by kernel_rfl) (by kernel_rfl) (fun K hK => ?_); go_big_quiet_step (fail); refine wpQuiet_nil (hK _ ?_); clear hK K); (refine lex_one (by kernel_rfl) (by kernel_rfl) (by kernel_rfl) (fun K hK => ?_); go_big_quiet_step (fail); refine wpQuiet_nil (hK _ ?_); clear hK K); (refine lex_one (by kernel_rfl) (by kernel_rfl) (by kernel_rfl) (fun K hK => ?_); go_big_quiet_step (fail); refine wpQuiet_nil (hK _ ?_); clear hK K); (refine lex_one (by kernel_rfl) (by kernel_rfl) (by kernel_rfl) (fun K hK => ?_); go_big_quiet_step (fail); refine wpQuiet_nil (hK _ ?_); clear hK K); (refine lex_one (by kernel_rfl) (by kernel_rfl) (by kernel_rfl) (fun K hK => ?_); go_big_quiet_step (fail); refine wpQuiet_nil (hK _ ?_); clear hK K); (refine lex_one (by kernel_rfl) (by kernel_rfl) (by kernel_rfl) (fun K hK => ?_); go_big_quiet_step (fail); refine wpQuiet_nil (hK _ ?_); clear hK K); (refine lex_one (by kernel_rfl) (by kernel_rfl) (by kernel_rfl) (fun K hK => ?_); go_big_quiet_step (fail); refine wpQuiet_nil (hK _ ?_); clear hK K); (refine lex_one (by kernel_rfl) (by kernel_rfl) (by kernel_rfl) (fun K hK => ?_); go_big_quiet_step (fail); refine wpQuiet_nil (hK _ ?_); clear hK K); (refine lex_one (by kernel_rfl) (by kernel_rfl) (by kernel_rfl) (fun K hK => ?_); go_big_quiet_step (fail); refine wpQuiet_nil (hK _ ?_); clear hK K); (refine lex_one (by kernel_rfl) (by kernel_rfl) (by kernel_rfl) (fun K hK => ?_); go_big_quiet_step (fail); refine wpQuiet_nil (hK _ ?_); clear hK K); (refine lex_one (by kernel_rfl) (by kernel_rfl) (by kernel_rfl) (fun K hK => ?_); go_big_quiet_step (fail); refine wpQuiet_nil (hK _ ?_); clear hK K)
        refine lex_callh (f := 9) (args := #[.slice sa1 LL.length sc1]) (r := recsHeld J) recsHeld_keeps (by kernel_rfl) (fun _ _ h => by cases h) (by kernel_rfl) rfl (fun _ => by go_simp) (fun W hW => ((QJ.out W (hL6.below hW)).mono fun e w' ⟨a, n, c, e1, e2, e3⟩ => ⟨_, e1, e3, a, n, c, rfl, e2.at HFew.out⟩)) ?_
        refine lex_callx 77 (r := recsHeld J) (v := .bool true) (by kernel_rfl) (fun _ _ h => by cases h) rfl (by simp) (by kernel_rfl) (by kernel_rfl) (by kernel_rfl) (by kernel_rfl) (fun x w hW hx => by obtain ⟨a, n, c, rfl, hx⟩ := hx; exact ⟨12, #[.slice u1 J.length v1, .slice a n c], by go_simp, (SameRecs_any (hr6.below hW) hx).mono fun e w' h => h⟩) (lex_put (type := 0) (pos := "") (fun K hK => ?_)); go_big_quiet_step (fail); refine wpQuiet_nil (hK _ ?_); clear hK K
        (refine lex_one (by kernel_rfl) (by kernel_rfl) (by kernel_rfl) (fun K hK => ?_); go_big_quiet_step (fail); refine wpQuiet_nil (hK _ ?_); clear hK K); (refine lex_one (by kernel_rfl) (by kernel_rfl) (by kernel_rfl) (fun K hK => ?_); go_big_quiet_step (fail); refine wpQuiet_nil (hK _ ?_); clear hK K)
        refine lex_nil (by kernel_rfl) (by kernel_rfl) (by kernel_rfl) ?_
        intro W7 hb7
        simp only [hideAll]
        intro y hy
        clear hy
        have hL7 := hL6.below hb7
        have hk7 := hk6.below hb7
        have kx7 := Blk.below kx hb7 kx.lt
        have B7 := B6.trans (Below.mono hb7 B6.size)
        obtain ⟨⟨d0, d1, d2, d3, d4, d5⟩, _⟩ := cells6 kx7
        clear hL6 hr6 hk6 kx B6 c0 c1 c2 c3 c4 c5 k0 k1 k2 k3 k4 hb7 hW6
        have k4 := wr_cell d4
        have k5 := wr_cell d5
        have l3 : (walPut g K J).1.length ≤ 300000 := l2
        rcases hwp : walPut g K J with ⟨tt, ok, er⟩
        rw [hwp] at l2 l3 X1 X2
        simp only at l2 l3 X1 X2
        have HWp := Lib.hid hwp
        clear hwp
        go_wp2_with fail
        simp only [Act.put, List.setIfInBounds_toArray, List.set_cons_succ, List.set_cons_zero]
        refine wp_region_at (R := WR W7.heap.size) (by kernel_rfl) (by kernel_rfl) ?_
        (refine lex_one (by kernel_rfl) (by kernel_rfl) (by kernel_rfl) (fun K hK => ?_); go_big_quiet_step (fail); refine wpQuiet_nil (hK _ ?_); clear hK K); (refine lex_one (by kernel_rfl) (by kernel_rfl) (by kernel_rfl) (fun K hK => ?_); go_big_quiet_step (fail); refine wpQuiet_nil (hK _ ?_); clear hK K); (refine lex_one (by kernel_rfl) (by kernel_rfl) (by kernel_rfl) (fun K hK => ?_); go_big_quiet_step (fail); refine wpQuiet_nil (hK _ ?_); clear hK K)
        refine lex_callh (f := 9) (args := #[.slice sa1 LL.length sc1]) (r := recsHeld J) recsHeld_turned (by kernel_rfl) (fun _ _ h => by cases h) (by kernel_rfl) rfl (fun _ => by go_simp) (fun W hW => ((QJ.out W (hL7.below (hW.below (Nat.le_refl _)))).mono fun e w' ⟨a, n, c, e1, e2, e3⟩ => ⟨_, e1, WR.of_below e3, a, n, c, rfl, e2.at HFew.out⟩)) ?_
        refine lex_callxh 85 (e := 86) (r := recsHeld J) (s := putW tt er) putW_keeps (by kernel_rfl) (fun _ _ h => by cases h) rfl (by simp) (by kernel_rfl) (by kernel_rfl) (by kernel_rfl) rfl (fun x w hW hx => by obtain ⟨a, n, c, rfl, hx⟩ := hx; exact ⟨13, #[.agg #[.int .i64 g, .slice u2 K.length v2], .slice a n c], by go_simp, (Put_any g (.slice u2 K.length v2) (.slice a n c) K J w (hk7.turned hW) hx (by omega) (by omega) g1 g2).mono fun e w' h => by
          obtain ⟨h1, y, h2, h3⟩ := put_w h (hk7.turned hW)
          rw [HWp.out] at h3
          exact ⟨y, h2, WR.of_below h1, h3⟩⟩) ?_
        refine lex_hmove 86 81 (.inr rfl) rfl rfl putW_keeps rfl ?_
        refine lex_ext 81 (.string (bs tt)) 0 rfl rfl rfl (by kernel_rfl) (fun x w ⟨_, _, _, _, h1⟩ => ⟨_, h1, rfl⟩) (lex_put (type := 0) (pos := "") (fun K hK => ?_)); go_big_quiet_step (fail); refine wpQuiet_nil (hK _ ?_); clear hK K
        refine lex_exth 81 88 (s := writW) 1 rfl rfl rfl writW_keeps rfl (fun x w ⟨h, p, l, c, h1⟩ => ⟨_, _, h1, rfl, h, p, l, c, rfl⟩) ?_
        refine lex_ext 81 (.int .i64 er) 2 rfl rfl rfl (by kernel_rfl) (fun x w ⟨_, _, _, _, h1⟩ => ⟨_, h1, rfl⟩) (lex_put (type := 0) (pos := "") (fun K hK => ?_)); go_big_quiet_step (fail); refine wpQuiet_nil (hK _ ?_); clear hK K
        refine lex_make (d := 14) (r := blkW W7.heap.size) blkW_keeps (by kernel_rfl) (fun _ _ h => by cases h) (by kernel_rfl) rfl (fun W hW => ⟨.pointer (some ⟨W.heap.size, 0, none⟩), W.alloc (.cells #[.int .i64 0, .slice none 0 0] 32), by go_simp, WR.of_below (one_alloc _ _), W.heap.size, rfl, hW.size, by simp, 0, none, 0, 0, Blk.new _ _ _⟩) ?_
        (refine lex_one (by kernel_rfl) (by kernel_rfl) (by kernel_rfl) (fun K hK => ?_); go_big_quiet_step (fail); refine wpQuiet_nil (hK _ ?_); clear hK K)
        refine lex_store 14 88 (T := 32) rfl rfl rfl rfl rfl (fun c W hW h16 h46 => ?_) ?_
        · obtain ⟨k, e1, hk1, hk2, u0, p0, l0, c0, hb⟩ := h16
          obtain ⟨gv, kp, kl, kc, e2⟩ := h46
          obtain ⟨⟨w0, w1⟩, v0, v1⟩ := cells2 hb
          have hs := set2 hb (.int .i64 gv) (.slice kp kl kc)
          refine ⟨(W.setCell ⟨k, 0, none⟩ (.int .i64 gv)).setCell ⟨k, 1, none⟩ (.slice kp kl kc), ?_, hs.2.os, hs.2.tape, hs.2.output, hs.2.size, fun j hj => ?_⟩
          · simp only [execOp, e1, e2]
            go_simp
          · by_cases hjk : j = k
            · subst hjk
              exact .inr ⟨hk1, ⟨_, _, _, _, hb⟩, _, _, _, _, hs.1⟩
            · exact .inl (hs.2.block j hj hjk)
        (refine lex_one (by kernel_rfl) (by kernel_rfl) (by kernel_rfl) (fun K hK => ?_); go_big_quiet_step (fail); refine wpQuiet_nil (hK _ ?_); clear hK K)
        refine lex_nil (by kernel_rfl) (by kernel_rfl) (by kernel_rfl) ?_
        intro W8 hb8
        simp only [hideAll]
        intro y1 hy1 y2 hy2 y3 hy3 y4 hy4 y5 hy5
        clear hy1 hy2 hy3 hy4 hy5
        simp only [Act.put, List.setIfInBounds_toArray, List.set_cons_succ, List.set_cons_zero]
        have hbl8 := hb8.below (Nat.le_refl _)
        have kx8 := Blk.below kx7 hbl8 kx7.lt
        have B8 := B7.trans (hbl8.mono B7.size)
        have hw : ∃ Y K3, walRead (st ++ tt) = (some ⟨g, 0, Y, K3, ((st ++ tt).length : Int), false⟩, 0) ∧ ((er = 7 ∧ tt = []) ∨ (er = 0 ∧ Y.length = 2 * J.length)) := by
          cases ok with
          | none =>
            obtain ⟨e1, e2⟩ := X1.out rfl
            subst e1
            exact ⟨J, K, by rw [List.append_nil]; exact X0.out, .inl ⟨e2, rfl⟩⟩
          | some K2 =>
            obtain ⟨e1, e2⟩ := X2.out K2 rfl
            exact ⟨J ++ J, K2, e2, .inr ⟨e1, by rw [List.length_append]; omega⟩⟩
        obtain ⟨Y, K3, hw1, hw2⟩ := hw
        have HW1 := Lib.hid hw1
        have HW2 := Lib.hid hw2
        clear hw1 hw2 X0 X1 X2 HWp kx7 B7 hbl8 hb8 k4 k5 d0 d1 d2 d3 d4 d5 hL7 hk7
        have hadd : ∀ W, (Op.stringOp .add (bs st) (bs tt)).run Tryz.prog W = .ok (.string (bs (st ++ tt))) W := fun W => run_add_bs (P := Tryz.prog) _ _ (by omega) W
        have q8 := Lib.hid (Read_any (st ++ tt) W8 (by rw [List.length_append]; omega))
        go_wp2_with fail
        refine q8.out.mono ?_
        rintro e W9 ⟨hI, b9⟩
        obtain ⟨u3, v3, u4, v4, rfl, _, _⟩ := readIs_some hI HW1.out
        have kx9 := Blk.below kx8 b9 kx8.lt
        have ky := Blk.new W9 34 #[.int .i64 0, .slice u3 Y.length v3, .int .i64 ((st ++ tt).length : Int), .bool false, .int .i64 g, .slice u4 K3.length v4]
        have b10 := one_alloc W9 (.cells #[.int .i64 0, .slice u3 Y.length v3, .int .i64 ((st ++ tt).length : Int), .bool false, .int .i64 g, .slice u4 K3.length v4] 34)
        have kx10 := Blk.below kx9 b10 kx9.lt
        have B10 := (B8.trans (b9.mono B8.size)).trans (b10.mono (Nat.le_trans B8.size b9.size))
        obtain ⟨⟨d0, d1, d2, d3, d4, d5⟩, _⟩ := cells6 kx10
        obtain ⟨⟨f0, f1, f2, f3, f4, f5⟩, _⟩ := cells6 ky
        clear hI q8 b9 b10 kx8 kx9 kx10 ky B8 hadd
        generalize (st ++ tt).length = sl at *
        rcases HW2.out with ⟨rfl, _⟩ | ⟨rfl, hY⟩
        · go_wp2
          go_ret
          exact ⟨rfl, B10⟩
        · have hz : ((Y.length : Int) == 2 * (J.length : Int)) = true := by simp; omega
          clear hY
          go_wp2
          go_ret
          exact ⟨rfl, B10⟩
  · have hd : decide ((LL.length : Int) ≤ 8) = false := by simp; omega
    have hd' : decide (LL.length ≤ 8) = false := by simpa using h8
    go_enter Tryz.func3, Tryz.ntmps3
    go_wp2_with fail
    refine q0.out.mono ?_
    rintro e W1 ⟨rfl, b1⟩
    go_wp2
    go_ret
    exact ⟨rfl, b1⟩
end Go.Proofs.YtipdeiiipdnacaaGreat
