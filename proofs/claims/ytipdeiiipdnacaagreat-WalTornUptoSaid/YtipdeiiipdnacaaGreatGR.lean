/- What is put is got: numbers, names, changes. In plain words. What is put is got: frames, and changes of each generation. In plain words. What is put is got: whole rows of changes behind a head. In plain words. Changes that are alike are told to be. A region that draws its order, puts changes, and lays the writer into a new block: how the world may turn meanwhile. A segment is made of rows of changes: the walk. A segment is made of rows of changes: the walk of the law's own function. What one row of changes behind a head tells: in plain words. The law WalGens: the walk. -/
import Derived.Test.YtipdeiiipdnacaaGreatGE
import Derived.Test.YtipdeiiipdnacaaGreatGL
import Derived.Laws.OwnMore
import Derived.Test.YtipdeiiipdnacaaGreatGN
namespace Go.Proofs.YtipdeiiipdnacaaGreat

theorem small_short (n : Nat) (h : n < 128) : (Num.small n).length = 1 := by
  unfold Num.small
  unfold Num.smallF
  rw [if_pos h]
  rfl
theorem sV_small (n : Nat) (r : List UInt8) (h : n < 18446744073709551616) : sV (Num.small n ++ r, false) = n := by
  unfold sV
  rw [if_neg (by simp), Num.getSmall_small n h]
  rfl
theorem sN_small (n : Nat) (r : List UInt8) (h : n < 18446744073709551616) : sN (Num.small n ++ r, false) = (r, false) := by
  unfold sN Num.nxt
  rw [if_neg (by simp), Num.getSmall_small n h]
  simp
theorem wV_wide (n : Nat) (r : List UInt8) (h : n < 18446744073709551616) : wV (Num.wide n ++ r, false) = n := by
  unfold wV
  rw [if_neg (by simp), Num.getWide_wide n h]
  rfl
theorem wN_wide (n : Nat) (r : List UInt8) (h : n < 18446744073709551616) : wN (Num.wide n ++ r, false) = (r, false) := by
  unfold wN Num.nxt
  rw [if_neg (by simp), Num.getWide_wide n h]
  simp [Num.wide_len]
theorem tT_text (t r : List UInt8) (m : Nat) (h : t.length ≤ m) (hm : m ≤ 1000000) : tT (Num.text t ++ r, false) m = t := by
  unfold tT
  rw [if_neg (by simp), Num.getText_text t m (by omega) (by omega)]
  rfl
theorem nT_text (t r : List UInt8) (m : Nat) (h : t.length ≤ m) (hm : m ≤ 1000000) : nT (Num.text t ++ r, false) m = (r, false) := by
  unfold nT Num.nxt
  rw [if_neg (by simp), Num.getText_text t m (by omega) (by omega)]
  simp

theorem keyB_cons (x : Lb) (L : List Lb) : keyB (x :: L) = Num.text x.1 ++ (Num.text x.2 ++ keyB L) := by
  unfold keyB
  rw [List.flatMap_cons, List.append_assoc]
theorem text_ne (t r : List UInt8) : Num.text t ++ r ≠ [] := fun e => by
  have := Num.small_len t.length
  have h := congrArg List.length e
  rw [List.length_append, Num.text_len, List.length_nil] at h
  omega
theorem ofLoop_keyB : ∀ (L : List Lb) (k : Nat), (∀ y ∈ L, y.1.length ≤ 48 ∧ y.2.length ≤ 48) → L.length ≤ k → ofLoop k (keyB L) = some L
  | [], k, _, _ => by unfold ofLoop; rw [if_pos (by rfl)]
  | x :: L, 0, _, h => by simp at h
  | x :: L, k + 1, hs, h => by
    have ih := ofLoop_keyB L k (fun y hy => hs y (List.mem_cons_of_mem _ hy)) (by simpa using h)
    have hx := hs x List.mem_cons_self
    rw [keyB_cons]
    unfold ofLoop
    rw [if_neg (text_ne _ _)]
    simp only
    rw [Num.getText_text x.1 48 (by omega) (by omega)]
    simp only
    rw [List.drop_left' rfl, Num.getText_text x.2 48 (by omega) (by omega)]
    simp only
    rw [List.drop_left' rfl, ih]
    rfl
theorem keyB_len_ge : ∀ (L : List Lb), L.length ≤ (keyB L).length
  | [] => Nat.zero_le _
  | x :: L => by
    have ih := keyB_len_ge L
    have := Num.small_len x.1.length
    rw [keyB_cons, List.length_append, List.length_append, Num.text_len, List.length_cons]
    omega
theorem ofB_keyB (L : List Lb) (h : checkE L = 0) : ofB (keyB L) = some L := by
  unfold ofB
  rw [ofLoop_keyB L _ (checkE_short L h).2 (keyB_len_ge L)]
  simp only
  rw [if_pos h]
theorem keyB_tight : ∀ (L : List Lb), (∀ y ∈ L, y.1.length ≤ 48 ∧ y.2.length ≤ 48) → (keyB L).length ≤ L.length * 98
  | [], _ => by simp [keyB]
  | x :: L, h => by
    have ih := keyB_tight L fun y hy => h y (List.mem_cons_of_mem _ hy)
    have hx := h x List.mem_cons_self
    have s1 := small_short x.1.length (by omega)
    have s2 := small_short x.2.length (by omega)
    rw [keyB_cons, List.length_append, List.length_append, Num.text_len, Num.text_len, List.length_cons]
    omega
theorem keyB_600 (L : List Lb) (h : checkE L = 0) : (keyB L).length ≤ 600 := by
  obtain ⟨h1, h2⟩ := checkE_short L h
  have := keyB_tight L h2
  omega

/-- Keys that a writer may have: of labels that may be. -/
def GK (K : List (List UInt8)) : Prop := ∀ k ∈ K, ∃ L, checkE L = 0 ∧ k = keyB L
theorem GK.nil : GK [] := fun k hk => by cases hk
theorem idxOf_getD (K : List (List UInt8)) (k : List UInt8) (h : k ∈ K) : K.getD (K.idxOf k) [] = k := by
  have hl := List.idxOf_lt_length_iff.2 h
  rw [List.getD_eq_getElem?_getD, List.getElem?_eq_getElem hl]
  exact List.getElem_idxOf hl
theorem namesPut_GK {K : List (List UInt8)} {L : List Lb} (h : GK K) (hL : checkE L = 0) : GK (namesPut K L).2 := fun k hk => by
  rcases namesPut_new K L k hk with h1 | h1
  · exact h k h1
  · exact ⟨L, hL, h1⟩
theorem namesGet_put (K : List (List UInt8)) (L : List Lb) (r : List UInt8) (hL : checkE L = 0) (hK : K.length ≤ 1000000) :
    namesGet K ((namesPut K L).1 ++ r, false) = (some (L, (namesPut K L).2), (r, false)) := by
  unfold namesPut
  by_cases hm : keyB L ∈ K
  · have hl := List.idxOf_lt_length_iff.2 hm
    rw [if_pos hm]
    simp only
    unfold namesGet
    rw [sV_small _ _ (by omega), sN_small _ _ (by omega), if_neg (by simp; omega), if_pos (by omega)]
    simp only [Int.toNat_natCast]
    simp only [idxOf_getD K _ hm, ofB_keyB L hL]
    simp
  · rw [if_neg hm]
    simp only
    unfold namesGet
    rw [List.append_assoc, sV_small _ _ (by omega), sN_small _ _ (by omega), if_neg (by simp), if_neg (by omega)]
    have h600 := keyB_600 L hL
    have e1 : tT (Num.text (keyB L) ++ r, false) 600 = keyB L := tT_text _ _ 600 h600 (by omega)
    have e2 : nT (Num.text (keyB L) ++ r, false) 600 = (r, false) := nT_text _ _ 600 h600 (by omega)
    rw [e1, e2, if_neg (by simp [hm]), ofB_keyB L hL]
    rfl
theorem u64N_small (t : Int) (h1 : 0 ≤ t) (h2 : t ≤ 1125899906842624) : u64N t = t.toNat := by unfold u64N; omega
theorem i64N_toNat (t : Int) (h1 : 0 ≤ t) (h2 : t ≤ 1125899906842624) : i64N t.toNat = t := by unfold i64N; split <;> omega
theorem right_cases (x : Rc) (h : rightB x = true) : (x.kind = 0 ∧ checkE x.labels = 0 ∧ 0 ≤ x.t ∧ x.t ≤ 1125899906842624 ∧ x.u = 0) ∨ (x.kind = 1 ∧ checkE x.labels = 0 ∧ x.t ≤ x.u ∧ x.v = 0) ∨ (x.kind = 2 ∧ x.labels = [] ∧ 0 ≤ x.t ∧ x.t ≤ 1125899906842624 ∧ x.u = 0 ∧ x.v = 0) := by
  unfold rightB at h
  by_cases k0 : x.kind = 0
  · rw [if_pos k0] at h
    unfold timelyB at h
    simp only [Bool.and_eq_true, decide_eq_true_eq] at h
    exact .inl ⟨k0, h.1, h.2.1.1, h.2.1.2, h.2.2⟩
  · rw [if_neg k0] at h
    by_cases k1 : x.kind = 1
    · rw [if_pos k1] at h
      simp only [Bool.and_eq_true, decide_eq_true_eq] at h
      exact .inr (.inl ⟨k1, h.1, h.2.1, h.2.2⟩)
    · rw [if_neg k1] at h
      by_cases k2 : x.kind = 2
      · rw [if_pos k2] at h
        unfold timelyB at h
        simp only [Bool.and_eq_true, decide_eq_true_eq] at h
        exact .inr (.inr ⟨k2, List.length_eq_zero_iff.1 h.1, h.2.1.1, h.2.1.2, h.2.2.1, h.2.2.2⟩)
      · rw [if_neg k2] at h
        cases h
/-- A change in generation 2, or in 3 where it is no sample. -/
theorem get1_put (smp : CS → (Int × Nat) × CS) (K : List (List UInt8)) (x : Rc) (r tail : List UInt8) (hok : x.ok) (hr : rightB x = true) (hK : K.length ≤ 1000000)
    (hs : x.kind = 0 → smp (tail ++ r, false) = ((x.t, x.v), (r, false)))
    (e : List UInt8) (he : x.kind = 0 → e = Num.small 0 ++ (namesPut K x.labels).1 ++ tail) (he2 : x.kind ≠ 0 → e = (smallOne K x).1) (K' : List (List UInt8)) (hK' : K' = if x.kind = 2 then K else (namesPut K x.labels).2) :
    get1P smp K (e ++ r, false) = (some (x, K'), (r, false)) := by
  obtain ⟨k, L, t, u, v⟩ := x
  obtain ⟨o1, o2, o3, o4, o5, o6, o7⟩ := hok
  simp only at o1 o2 o3 o4 o5 o6 o7 hs he he2 hK'
  rcases right_cases _ hr with ⟨h1, h2, h3, h4, h5⟩ | ⟨h1, h2, h3, h4⟩ | ⟨h1, h2, h3, h4, h5, h6⟩
  · simp only at h1 h2 h3 h4 h5
    subst h1 h5
    rw [he rfl]
    unfold get1P
    rw [List.append_assoc, List.append_assoc, sV_small 0 _ (by omega), sN_small 0 _ (by omega), if_neg (by simp), if_neg (by simp), namesGet_put K L _ h2 hK]
    simp only
    rw [if_pos (by rfl), hs rfl]
    simp only
    rw [if_neg (by simp), hK', if_neg (by simp)]
  · simp only at h1 h2 h3 h4
    subst h1 h4
    have z1 := Num.zig_bd t o3 o4
    have z2 := Num.zig_bd u o5 o6
    rw [he2 (by simp)]
    unfold smallOne
    rw [if_neg (by simp), if_pos rfl]
    unfold get1P
    simp only
    rw [List.append_assoc, List.append_assoc, List.append_assoc, sV_small 1 _ (by omega), sN_small 1 _ (by omega), if_neg (by simp), if_neg (by simp), namesGet_put K L _ h2 hK]
    simp only
    rw [if_neg (by simp), sN_small _ _ (by omega), sN_small _ _ (by omega), sV_small _ _ (by omega), sV_small _ _ (by omega), if_neg (by simp), hK', if_neg (by simp)]
    rw [Int.toNat_of_nonneg z1.1, Int.toNat_of_nonneg z2.1, Num.zag_zig, Num.zag_zig]
  · simp only at h1 h2 h3 h4 h5 h6
    subst h1 h2 h5 h6
    rw [he2 (by simp)]
    unfold smallOne
    rw [if_neg (by simp), if_neg (by simp)]
    unfold get1P
    simp only
    rw [List.append_assoc, sV_small 2 _ (by omega), sN_small 2 _ (by omega), if_neg (by simp), if_pos (by rfl), sN_small _ _ (u64N_lt t), sV_small _ _ (u64N_lt t), if_neg (by simp), hK', if_pos rfl]
    rw [Int.toNat_natCast, u64N_small t h3 h4, i64N_toNat t h3 h4]
end Go.Proofs.YtipdeiiipdnacaaGreat
namespace Go.Proofs.YtipdeiiipdnacaaGreat
open Go.RowKit

theorem frameGet_put (b r : List UInt8) (m : Nat) (h : b.length ≤ m) (hm : m ≤ 1000000) : frameGet (framePut b ++ r) m = (b, r, 0) := by
  have e : framePut b = Num.small b.length ++ (b ++ tailB (Num.text b)) := by
    unfold framePut checkedB Num.text
    rw [List.append_assoc]
  have hk := Num.small_len b.length
  unfold frameGet
  have hg : Num.getSmall (framePut b ++ r) = some (b.length, (Num.small b.length).length) := by
    rw [e, List.append_assoc]
    exact Num.getSmall_small _ (by omega) _
  rw [hg]
  simp only
  have hd : (framePut b ++ r).drop (Num.small b.length).length = b ++ (tailB (Num.text b) ++ r) := by
    rw [e, List.append_assoc, List.drop_left' rfl, List.append_assoc]
  have hl : (framePut b).length = (Num.small b.length).length + b.length + 4 := by
    unfold framePut
    rw [checkedB_len, Num.text_len]
  rw [if_neg (by omega), hd, if_neg (by simp [tailB_len]), List.take_append_of_le_length (by omega), List.take_of_length_le (by omega)]
  rw [show goodB (framePut b) = some (Num.text b) from goodB_tail _, if_pos (by rfl), List.take_left' rfl, List.drop_left' hl]

theorem smp2_put (t : Int) (v : Nat) (r : List UInt8) (h1 : 0 ≤ t) (h2 : t ≤ 1125899906842624) (hv : v < 18446744073709551616) :
    smp2 ((Num.small (u64N t) ++ Num.wide v) ++ r, false) = ((t, v), (r, false)) := by
  unfold smp2
  rw [List.append_assoc, sN_small _ _ (u64N_lt t), sV_small _ _ (u64N_lt t), wV_wide _ _ hv, wN_wide _ _ hv, Int.toNat_natCast, Int.toNat_natCast, u64N_small t h1 h2, i64N_toNat t h1 h2]
theorem smallOne_K (K : List (List UInt8)) (x : Rc) (h : rightB x = true) : (smallOne K x).2 = if x.kind = 2 then K else (namesPut K x.labels).2 := by
  unfold smallOne
  rcases right_cases x h with ⟨h1, _⟩ | ⟨h1, _⟩ | ⟨h1, _⟩
  · rw [if_pos h1, if_neg (by omega)]
  · rw [if_neg (by omega), if_pos h1, if_neg (by omega)]
  · rw [if_neg (by omega), if_neg (by omega), if_pos h1]
theorem smallGet_put (K : List (List UInt8)) (x : Rc) (r : List UInt8) (hok : x.ok) (hv : validE x 2 = 0) (hK : K.length ≤ 1000000) (hl : (smallOne K x).1.length ≤ 20000) :
    smallGet K (framePut (smallOne K x).1 ++ r) = (some (x, (smallOne K x).2), 0) := by
  have hr := valid_right x 2 hv
  unfold smallGet
  rw [frameGet_put _ r 20000 hl (by omega)]
  simp only
  rw [if_neg (by simp)]
  have h := get1_put smp2 K x [] (Num.small (u64N x.t) ++ Num.wide x.v) hok hr hK (fun h0 => by
    rcases right_cases x hr with ⟨h1, _, h3, h4, _⟩ | ⟨h1, _⟩ | ⟨h1, _⟩
    · exact smp2_put _ _ _ h3 h4 hok.2.2.2.2.2.2
    · omega
    · omega) (smallOne K x).1 (fun h0 => by unfold smallOne; rw [if_pos h0]; simp only; rw [List.append_assoc]) (fun _ => rfl) _ (smallOne_K K x hr)
  rw [List.append_nil] at h
  rw [h]
  simp only
  rw [if_neg (by rw [hv]; simp [doneB])]

theorem xor_back (a b : Nat) : b ^^^ (a ^^^ b) = a := by
  rw [Nat.xor_comm a b, ← Nat.xor_assoc, Nat.xor_self, Nat.zero_xor]
theorem smp3_put (lt t : Int) (lv v : Nat) (r : List UInt8) (h1 : 0 ≤ t) (h2 : t ≤ 1125899906842624) (h3 : 0 ≤ lt) (h4 : lt ≤ 1125899906842624) (hv : v < 18446744073709551616) (hlv : lv < 18446744073709551616) :
    smp3 lt lv ((Num.small (Num.zigI (t - lt)).toNat ++ Num.small (v ^^^ lv)) ++ r, false) = ((t, v), (r, false)) := by
  have z := Num.zig_bd (t - lt) (by omega) (by omega)
  have hx : v ^^^ lv < 18446744073709551616 := Nat.xor_lt_two_pow (n := 64) hv hlv
  unfold smp3
  rw [List.append_assoc, sN_small _ _ (by omega), sV_small _ _ (by omega), sN_small _ _ hx, sV_small _ _ hx, Int.toNat_natCast, xor_back, Int.toNat_of_nonneg z.1, Num.zag_zig]
  rw [show wrap64 (lt + (t - lt)) = t by unfold wrap64; omega]
theorem batOne_put (K : List (List UInt8)) (lt : Int) (lv : Nat) (x : Rc) (r : List UInt8) (hok : x.ok) (hr : rightB x = true) (hK : K.length ≤ 1000000) (h3 : 0 ≤ lt) (h4 : lt ≤ 1125899906842624) (hlv : lv < 18446744073709551616) :
    get1P (smp3 lt lv) K ((batOne K lt lv x).1 ++ r, false) = (some (x, (batOne K lt lv x).2.1), (r, false)) := by
  refine get1_put (smp3 lt lv) K x r (Num.small (Num.zigI (x.t - lt)).toNat ++ Num.small (x.v ^^^ lv)) hok hr hK (fun h0 => ?_) _ (fun h0 => ?_) (fun h0 => ?_) _ ?_
  · rcases right_cases x hr with ⟨h1, _, h5, h6, _⟩ | ⟨h1, _⟩ | ⟨h1, _⟩
    · exact smp3_put _ _ _ _ _ h5 h6 h3 h4 hok.2.2.2.2.2.2 hlv
    · omega
    · omega
  · unfold batOne
    rw [if_pos h0]
    simp only
    rw [List.append_assoc]
  · unfold batOne
    rw [if_neg h0]
  · unfold batOne
    by_cases h0 : x.kind = 0
    · rw [if_pos h0, if_neg (by omega)]
    · rw [if_neg h0]
      exact smallOne_K K x hr
theorem batOne_last (K : List (List UInt8)) (lt : Int) (lv : Nat) (x : Rc) : (batOne K lt lv x).2.2.1 = (if x.kind = 0 then x.t else lt) ∧ (batOne K lt lv x).2.2.2 = (if x.kind = 0 then x.v else lv) := by
  unfold batOne
  split <;> exact ⟨rfl, rfl⟩
theorem batLoop_put : ∀ (R : List Rc) (K : List (List UInt8)) (lt : Int) (lv : Nat) (r : List UInt8), (∀ x ∈ R, validE x 3 = 0 ∧ x.ok) → K.length + R.length ≤ 1000000 → 0 ≤ lt → lt ≤ 1125899906842624 → lv < 18446744073709551616 →
    batGetLoop R.length K lt lv ((batLoop K lt lv R).1 ++ r, false) = (some (R, (batLoop K lt lv R).2), (r, false))
  | [], K, lt, lv, r, _, _, _, _, _ => rfl
  | x :: R, K, lt, lv, r, h, hK, h3, h4, hlv => by
    obtain ⟨hv, hok⟩ := h x List.mem_cons_self
    have hr := valid_right x 3 hv
    have hk := (batOne_keys K lt lv x (by have := (right_fits x hr).2.2.2.1; omega)).1
    have hl := batOne_last K lt lv x
    have hb : 0 ≤ (if x.kind = 0 then x.t else lt) ∧ (if x.kind = 0 then x.t else lt) ≤ 1125899906842624 ∧ (if x.kind = 0 then x.v else lv) < 18446744073709551616 := by
      split
      · rename_i h0
        rcases right_cases x hr with ⟨_, _, h5, h6, _⟩ | ⟨h1, _⟩ | ⟨h1, _⟩
        · exact ⟨h5, h6, hok.2.2.2.2.2.2⟩
        · omega
        · omega
      · exact ⟨h3, h4, hlv⟩
    have ih := batLoop_put R (batOne K lt lv x).2.1 (if x.kind = 0 then x.t else lt) (if x.kind = 0 then x.v else lv) r (fun y hy => h y (List.mem_cons_of_mem _ hy)) (by simp only [List.length_cons] at hK; omega) hb.1 hb.2.1 hb.2.2
    have h1 := batOne_put K lt lv x ((batLoop (batOne K lt lv x).2.1 (if x.kind = 0 then x.t else lt) (if x.kind = 0 then x.v else lv) R).1 ++ r) hok hr (by simp only [List.length_cons] at hK; omega) h3 h4 hlv
    unfold batLoop
    simp only [hl.1, hl.2]
    rw [List.length_cons]
    unfold batGetLoop
    rw [List.append_assoc, h1]
    simp only
    rw [if_neg (by rw [hv]; simp), ih]
theorem batGet_put (K : List (List UInt8)) (R : List Rc) (r : List UInt8) (hne : R ≠ []) (h : ∀ x ∈ R, validE x 3 = 0 ∧ x.ok) (hK : K.length + R.length ≤ 1000000) (hR : R.length ≤ 20000) (hl : (Num.small R.length ++ (batLoop K 0 0 R).1).length ≤ 20000) :
    batGet K (framePut (Num.small R.length ++ (batLoop K 0 0 R).1) ++ r) = (some (R, (batLoop K 0 0 R).2), 0) := by
  have hp : 0 < R.length := List.length_pos_iff.2 hne
  unfold batGet
  rw [frameGet_put _ r 20000 hl (by omega)]
  simp only
  rw [if_neg (by simp), sV_small _ _ (by omega), sN_small _ _ (by omega), if_neg (by omega), Int.toNat_natCast]
  have h1 := batLoop_put R K 0 0 [] h hK (by omega) (by omega) (by omega)
  rw [List.append_nil] at h1
  rw [h1]
  simp [doneB]

theorem longest_ge : ∀ (L : List Lb) (n : Nat), n ≤ L.foldl (fun n x => max (max n x.1.length) x.2.length) n ∧ ∀ y ∈ L, y.1.length ≤ L.foldl (fun n x => max (max n x.1.length) x.2.length) n ∧ y.2.length ≤ L.foldl (fun n x => max (max n x.1.length) x.2.length) n
  | [], n => ⟨Nat.le_refl _, fun y hy => by cases hy⟩
  | x :: L, n => by
    have ih := longest_ge L (max (max n x.1.length) x.2.length)
    rw [List.foldl_cons]
    refine ⟨by omega, fun y hy => ?_⟩
    rcases List.mem_cons.1 hy with rfl | hy
    · omega
    · exact ih.2 y hy
theorem valid_long (x : Rc) (g : Int) (h : validE x g = 0) : ∀ y ∈ x.labels, (y.1.length : Int) ≤ limitG g ∧ (y.2.length : Int) ≤ limitG g := fun y hy => by
  have hl := (longest_ge x.labels 0).2 y hy
  unfold validE longestB at h
  split at h
  · cases h
  · split at h
    · cases h
    · omega
theorem sz12 : Num.szN 12 = 12 := by decide
theorem fT_fixed (t r : List UInt8) (h : t.length ≤ 12) : fT (Num.fixed t 12 ++ r, false) = t := by
  unfold fT
  rw [if_neg (by simp), Num.getFixed_fixed, sz12, List.take_of_length_le h]
  rfl
theorem fN_fixed (t r : List UInt8) : fN (Num.fixed t 12 ++ r, false) = (r, false) := by
  unfold fN Num.nxt
  rw [if_neg (by simp), Num.getFixed_fixed]
  simp only
  rw [List.drop_left' (Num.fixed_len t 12)]
theorem fixLabs_put : ∀ (L : List Lb) (r : List UInt8), (∀ y ∈ L, y.1.length ≤ 12 ∧ y.2.length ≤ 12) → fixLabs L.length (L.flatMap lbFix ++ r, false) = (L, (r, false))
  | [], r, _ => rfl
  | x :: L, r, h => by
    have hx := h x List.mem_cons_self
    have ih := fixLabs_put L r fun y hy => h y (List.mem_cons_of_mem _ hy)
    rw [List.length_cons, List.flatMap_cons]
    unfold fixLabs
    have e : lbFix x ++ L.flatMap lbFix ++ r = Num.fixed x.1 12 ++ (Num.fixed x.2 12 ++ (L.flatMap lbFix ++ r)) := by
      unfold lbFix
      simp only [List.append_assoc]
    rw [e]
    simp only
    rw [fT_fixed _ _ hx.1, fN_fixed, fT_fixed _ _ hx.2, fN_fixed, ih]
theorem unw_wide (n : Nat) (h : n < 18446744073709551616) : Num.unw (Num.wide n) = n := Num.unw_wideF 8 n h
theorem fixGet_put (x : Rc) (r : List UInt8) (hok : x.ok) (hv : validE x 1 = 0) : fixGet (oneB x ++ r) = (some x, 0) := by
  have hr := valid_right x 1 hv
  have hf := (right_fits x hr).1
  have hlen := oneB_len x hf.2
  have hlong := valid_long x 1 hv
  obtain ⟨k, L, t, u, v⟩ := x
  obtain ⟨o1, o2, o3, o4, o5, o6, o7⟩ := hok
  simp only at o1 o2 o3 o4 o5 o6 o7 hlong
  obtain ⟨⟨hk0, hk1⟩, hL6⟩ := hf
  simp only at hk0 hk1 hL6
  have hlim : limitG 1 = 12 := rfl
  rw [hlim] at hlong
  have hT := tailB_len (recBody ⟨k, L, t, u, v⟩)
  have e : oneB ⟨k, L, t, u, v⟩ = UInt8.ofNat k.toNat :: (Num.wide (u64N t) ++ (Num.wide (u64N u) ++ (Num.wide v ++ (UInt8.ofNat L.length :: (L.flatMap lbFix ++ ((List.replicate (6 - L.length) (([], []) : Lb)).flatMap lbFix ++ tailB (recBody ⟨k, L, t, u, v⟩))))))) := by
    conv => lhs; unfold oneB
    conv => lhs; arg 1; unfold recBody recHead pad6
    simp only [List.flatMap_append, List.append_assoc, List.cons_append, List.nil_append]
  have hs : fixRec (oneB ⟨k, L, t, u, v⟩ ++ r) = (⟨k, L, t, u, v⟩, (((List.replicate (6 - L.length) (([], []) : Lb)).flatMap lbFix ++ tailB (recBody ⟨k, L, t, u, v⟩)), false)) := by
    have hX : ((oneB ⟨k, L, t, u, v⟩ ++ r).drop 1).take 185 = Num.wide (u64N t) ++ (Num.wide (u64N u) ++ (Num.wide v ++ (UInt8.ofNat L.length :: (L.flatMap lbFix ++ ((List.replicate (6 - L.length) (([], []) : Lb)).flatMap lbFix ++ tailB (recBody ⟨k, L, t, u, v⟩)))))) := by
      rw [e] at hlen ⊢
      rw [List.cons_append, List.drop_succ_cons, List.drop_zero]
      simp only [List.length_cons] at hlen
      exact List.take_left' (by omega)
    have hwt := Num.wide_len (u64N t)
    have hwu := Num.wide_len (u64N u)
    have hwv := Num.wide_len v
    unfold fixRec
    simp only
    rw [hX]
    have g0 : (oneB ⟨k, L, t, u, v⟩ ++ r).getD 0 0 = UInt8.ofNat k.toNat := by rw [e]; rfl
    rw [g0]
    have ut := unw_wide (u64N t) (u64N_lt t)
    have uu := unw_wide (u64N u) (u64N_lt u)
    have uv := unw_wide v o7
    have hfl := fixLabs_put L ((List.replicate (6 - L.length) (([], []) : Lb)).flatMap lbFix ++ tailB (recBody ⟨k, L, t, u, v⟩)) (fun y hy => by have := hlong y hy; omega)
    clear hX g0 e hlen hT hr hv
    generalize (List.replicate (6 - L.length) (([], []) : Lb)).flatMap lbFix ++ tailB (recBody ⟨k, L, t, u, v⟩) = tl at *
    generalize Num.wide (u64N t) = wt at *
    generalize Num.wide (u64N u) = wu at *
    generalize Num.wide v = wv at *
    generalize L.flatMap lbFix ++ tl = D at *
    have d8 : (wt ++ (wu ++ (wv ++ (UInt8.ofNat L.length :: D)))).drop 8 = wu ++ (wv ++ (UInt8.ofNat L.length :: D)) := List.drop_left' hwt
    have d16 : (wt ++ (wu ++ (wv ++ (UInt8.ofNat L.length :: D)))).drop 16 = wv ++ (UInt8.ofNat L.length :: D) := by
      rw [show 16 = 8 + 8 from rfl, ← List.drop_drop, d8]
      exact List.drop_left' hwu
    have d24 : (wt ++ (wu ++ (wv ++ (UInt8.ofNat L.length :: D)))).drop 24 = UInt8.ofNat L.length :: D := by
      rw [show 24 = 16 + 8 from rfl, ← List.drop_drop, d16]
      exact List.drop_left' hwv
    have d25 : (wt ++ (wu ++ (wv ++ (UInt8.ofNat L.length :: D)))).drop 25 = D := by
      rw [show 25 = 24 + 1 from rfl, ← List.drop_drop, d24]
      rfl
    have gd : (wt ++ (wu ++ (wv ++ (UInt8.ofNat L.length :: D)))).getD 24 0 = UInt8.ofNat L.length := by
      have := List.getElem?_drop (xs := wt ++ (wu ++ (wv ++ (UInt8.ofNat L.length :: D)))) (i := 24) (j := 0)
      rw [d24] at this
      rw [List.getD_eq_getElem?_getD, ← this]
      rfl
    rw [d8, d16, d25, gd, List.take_left' hwt, List.take_left' hwu, List.take_left' hwv, ut, uu, uv, Num.ofNat_toNat _ (by omega), Num.ofNat_toNat _ (by omega), Nat.min_eq_left hL6, hfl, i64N_u64N t o3 o4, i64N_u64N u o5 o6, Int.toNat_of_nonneg hk0]
  unfold fixGet
  rw [if_neg (by rw [List.length_append]; omega), hs]
  simp only
  rw [if_neg]
  rw [hv, List.take_left' hlen]
  simp
end Go.Proofs.YtipdeiiipdnacaaGreat
namespace Go.Proofs.YtipdeiiipdnacaaGreat

theorem readLoop_fuel (g : Int) : ∀ (q q' : Nat) (K : List (List UInt8)) (s : List UInt8), s.length ≤ q → s.length ≤ q' → readLoop g q K s = readLoop g q' K s
  | 0, 0, _, _, _, _ => rfl
  | 0, q' + 1, K, s, h, _ => by
    obtain rfl := List.length_eq_zero_iff.1 (Nat.le_zero.1 h)
    simp [readLoop]
  | q + 1, 0, K, s, _, h => by
    obtain rfl := List.length_eq_zero_iff.1 (Nat.le_zero.1 h)
    simp [readLoop]
  | q + 1, q' + 1, K, s, h1, h2 => by
    unfold readLoop
    by_cases hs : s = []
    · rw [if_pos hs, if_pos hs]
    · rw [if_neg hs, if_neg hs]
      rcases hg : getBy g K s with ⟨o, e⟩
      cases o with
      | none => rfl
      | some z =>
        obtain ⟨l, K', r⟩ := z
        have hc := getBy_cons g K s l K' r e hg
        simp only
        rw [readLoop_fuel g q q' K' r (by omega) (by omega)]
/-- Some changes are got, and the rest is read. -/
theorem readLoop_step (g : Int) (q : Nat) (K K' : List (List UInt8)) (s r : List UInt8) (R : List Rc) (hne : s ≠ []) (hg : getBy g K (s ++ r) = (some (R, K', r), 0)) (hq : (s ++ r).length ≤ q) :
    readLoop g q K (s ++ r) = behindR R (readLoop g r.length K' r) := by
  have hp : 0 < s.length := List.length_pos_iff.2 hne
  rw [List.length_append] at hq
  obtain ⟨q, rfl⟩ := Nat.exists_eq_succ_of_ne_zero (show q ≠ 0 by omega)
  rw [readLoop, if_neg (by simp [hne]), hg]
  simp only
  rw [readLoop_fuel g q r.length K' r (by omega) (by omega)]
  unfold behindR
  cases readLoop g r.length K' r <;> rfl
theorem framePut_ne (b : List UInt8) : framePut b ≠ [] := fun e => by
  have := congrArg List.length e
  unfold framePut at this
  rw [checkedB_len, List.length_nil] at this
  omega
theorem oneB_ne (x : Rc) (h : x.labels.length ≤ 6) : oneB x ≠ [] := fun e => by
  have := oneB_len x h
  rw [e] at this
  cases this

theorem readLoop_put1 : ∀ (R : List Rc) (K : List (List UInt8)) (r : List UInt8) (q : Nat), (∀ x ∈ R, validE x 1 = 0 ∧ x.ok) → (fixPut R ++ r).length ≤ q →
    readLoop 1 q K (fixPut R ++ r) = behindR R (readLoop 1 r.length K r)
  | [], K, r, q, _, hq => by
    rw [behindR_nil]
    exact readLoop_fuel 1 _ _ K r hq (Nat.le_refl _)
  | x :: R, K, r, q, h, hq => by
    obtain ⟨hv, hok⟩ := h x List.mem_cons_self
    have hf := (right_fits x (valid_right x 1 hv)).1.2
    have e : fixPut (x :: R) ++ r = oneB x ++ (fixPut R ++ r) := by
      unfold fixPut
      rw [List.flatMap_cons, List.append_assoc]
    have hlen := oneB_len x hf
    rw [e] at hq ⊢
    have hg : getBy 1 K (oneB x ++ (fixPut R ++ r)) = (some ([x], K, fixPut R ++ r), 0) := by
      unfold getBy
      rw [if_pos rfl, fixGet_put x _ hok hv]
      simp only
      rw [List.drop_left' hlen]
    rw [readLoop_step 1 q K K (oneB x) _ [x] (oneB_ne x hf) hg hq, readLoop_put1 R K r _ (fun y hy => h y (List.mem_cons_of_mem _ hy)) (Nat.le_refl _), behindR_app]
    rfl
theorem readLoop_put2 : ∀ (R : List Rc) (K : List (List UInt8)) (s : List UInt8) (K' : List (List UInt8)) (r : List UInt8) (q : Nat), smallPut K R = (some s, K') → (∀ x ∈ R, validE x 2 = 0 ∧ x.ok) → K.length + R.length ≤ 1000000 → (s ++ r).length ≤ q →
    readLoop 2 q K (s ++ r) = behindR R (readLoop 2 r.length K' r)
  | [], K, s, K', r, q, hp, _, _, hq => by
    obtain ⟨h1, rfl⟩ := Prod.mk.inj hp
    obtain rfl := Option.some.inj h1
    rw [behindR_nil]
    exact readLoop_fuel 2 _ _ K r hq (Nat.le_refl _)
  | x :: R, K, s, K', r, q, hp, h, hK, hq => by
    obtain ⟨hv, hok⟩ := h x List.mem_cons_self
    rw [List.length_cons] at hK
    unfold smallPut at hp
    split at hp
    · cases hp
    · rename_i hl
      have hl : (smallOne K x).1.length ≤ 20000 := by omega
      obtain ⟨h1, h2⟩ := Prod.mk.inj hp
      have hk := smallOne_keys K x
      rcases hs2 : smallPut (smallOne K x).2 R with ⟨o, K2⟩
      rw [hs2] at h1 h2
      cases o with
      | none => cases h1
      | some s2 =>
        simp only at h2
        subst h2
        have e := (Option.some.inj h1).symm
        simp only at e
        subst e
        rw [List.append_assoc] at hq ⊢
        have hg : getBy 2 K (framePut (smallOne K x).1 ++ (s2 ++ r)) = (some ([x], (smallOne K x).2, s2 ++ r), 0) := by
          unfold getBy
          rw [if_neg (by decide), if_pos rfl, smallGet_put K x _ hok hv (by omega) hl, frameGet_put _ _ 20000 hl (by omega)]
        rw [readLoop_step 2 q K _ _ _ [x] (framePut_ne _) hg hq, readLoop_put2 R _ s2 K2 r _ hs2 (fun y hy => h y (List.mem_cons_of_mem _ hy)) (by omega) (Nat.le_refl _), behindR_app]
        rfl
theorem readLoop_put3 (R : List Rc) (K : List (List UInt8)) (r : List UInt8) (q : Nat) (hb : (batPut K R).1.2 = true) (h : ∀ x ∈ R, validE x 3 = 0 ∧ x.ok) (hK : K.length + R.length ≤ 1000000) (hR : R.length ≤ 20000) (hq : ((batPut K R).1.1 ++ r).length ≤ q) :
    readLoop 3 q K ((batPut K R).1.1 ++ r) = behindR R (readLoop 3 r.length (batPut K R).2 r) := by
  unfold batPut at *
  by_cases hR0 : R = []
  · subst hR0
    rw [if_pos rfl] at *
    rw [behindR_nil]
    exact readLoop_fuel 3 _ _ K r hq (Nat.le_refl _)
  · rw [if_neg hR0] at *
    have hl : (Num.small R.length ++ (batLoop K 0 0 R).1).length ≤ 20000 := by simpa using hb
    have hg : getBy 3 K (framePut (Num.small R.length ++ (batLoop K 0 0 R).1) ++ r) = (some (R, (batLoop K 0 0 R).2, r), 0) := by
      unfold getBy
      rw [if_neg (by decide), if_neg (by decide), batGet_put K R r hR0 h hK hR hl, frameGet_put _ _ 20000 hl (by omega)]
    exact readLoop_step 3 q K _ _ _ R (framePut_ne _) hg hq
/-- WHAT IS PUT IS READ, and the rest behind it. -/
theorem readLoop_put (g : Int) (hg : knownB g = true) (R : List Rc) (K : List (List UInt8)) (s : List UInt8) (K' : List (List UInt8)) (r : List UInt8) (q : Nat) (hp : putBy g K R = (some s, K')) (h : ∀ x ∈ R, validE x g = 0 ∧ x.ok) (hK : K.length + R.length ≤ 1000000) (hR : R.length ≤ 20000) (hq : (s ++ r).length ≤ q) :
    readLoop g q K (s ++ r) = behindR R (readLoop g r.length K' r) := by
  unfold knownB at hg
  simp only [Bool.and_eq_true, decide_eq_true_eq] at hg
  rcases (show g = 1 ∨ g = 2 ∨ g = 3 by omega) with rfl | rfl | rfl
  · obtain ⟨h1, rfl⟩ := Prod.mk.inj (show (some (fixPut R), K) = (some s, K') from hp)
    obtain rfl := Option.some.inj h1
    exact readLoop_put1 R K r q h hq
  · exact readLoop_put2 R K s K' r q hp h hK hq
  · have hp3 : (if (batPut K R).1.2 then some (batPut K R).1.1 else none, (batPut K R).2) = (some s, K') := hp
    obtain ⟨h1, rfl⟩ := Prod.mk.inj hp3
    split at h1
    · rename_i hb
      obtain rfl := Option.some.inj h1
      exact readLoop_put3 R K r q hb h hK hR hq
    · cases h1
theorem walPut_some (g : Int) (K : List (List UInt8)) (R : List Rc) (s : List UInt8) (K' : List (List UInt8)) (e : Int) (h : walPut g K R = (s, some K', e)) : knownB g = true ∧ putBy g K R = (some s, K') ∧ (∀ x ∈ R, validE x g = 0) ∧ e = 0 := by
  unfold walPut at h
  split at h
  · cases h
  · rename_i hk
    split at h
    · cases h
    · rename_i hf
      split at h
      · cases h
      · rename_i s2 K2 hp
        obtain ⟨rfl, h2⟩ := Prod.mk.inj h
        obtain ⟨h3, rfl⟩ := Prod.mk.inj h2
        obtain rfl := Option.some.inj h3
        exact ⟨by simpa using hk, hp, firstE_zero g R (by simpa using hf), rfl⟩
theorem openB_head (g : Nat) (h1 : 1 ≤ g) (h2 : g ≤ 3) (r : List UInt8) : openB (headB magicB g 0 ++ r) magicB = (g, 0, r, 0) := by
  have hl : (headB magicB g 0).length = 10 := by
    unfold headB
    rw [checkedB_len]
    rfl
  unfold openB
  rw [if_neg (by rw [List.length_append, hl]; simp [magicB])]
  have ht : (headB magicB g 0 ++ r).take (magicB.length + 6) = headB magicB g 0 := List.take_left' hl
  have hd : (headB magicB g 0 ++ r).drop (magicB.length + 6) = r := List.drop_left' hl
  rw [ht, hd, show goodB (headB magicB g 0) = some (magicB ++ [UInt8.ofNat g, UInt8.ofNat 0]) from goodB_tail _]
  simp only
  rcases (show g = 1 ∨ g = 2 ∨ g = 3 by omega) with rfl | rfl | rfl <;> rfl
/-- A head and what stands behind it. -/
theorem walRead_head (g : Int) (hg : knownB g = true) (s : List UInt8) (L : List Rc) (K : List (List UInt8)) (r : List UInt8) (t : Bool) (h : readLoop g s.length [] s = some (L, K, r, t)) :
    walRead (headB magicB g.toNat 0 ++ s) = (some ⟨g, 0, L, K, ((headB magicB g.toNat 0 ++ s).length : Int) - r.length, t⟩, 0) := by
  unfold knownB at hg
  simp only [Bool.and_eq_true, decide_eq_true_eq] at hg
  unfold walRead
  rw [openB_head g.toNat (by omega) (by omega)]
  simp only
  rw [if_neg (by simp), Int.toNat_of_nonneg (by omega), h]
  rfl
end Go.Proofs.YtipdeiiipdnacaaGreat
namespace Go.Proofs.YtipdeiiipdnacaaGreat
open Go.RowKit Go.Maps Go.WideMaps
attribute [local go_sem] bs_toList bs_size

set_option maxRecDepth 100000 in
set_option maxHeartbeats 1000000 in
theorem Same_any {w : World} {v1 v2 : Value} {L : List Lb} (h1 : LabsAt w v1 L) (h2 : LabsAt w v2 L) :
    Calls Tryz.prog 27 #[v1, v2] w fun e w' => e = .returned (.bool true) ∧ Below w.heap.size w w' := by
  obtain ⟨s1, c1, rfl, l1, x1⟩ := h1
  obtain ⟨s2, c2, rfl, _, x2⟩ := h2
  have X1 := Lib.hid x1
  have X2 := Lib.hid x2
  clear x1 x2
  go_enter Tryz.func27, Tryz.ntmps27
  go_wp2_with fail
  go_loopw [5] (fun i wr => ∃ j : Nat, j ≤ L.length ∧ i = .int .i64 (j : Int) ∧ Below w.heap.size w wr) (fun i _ => L.length - (intOf i).toNat)
  case atStart => exact ⟨0, Nat.zero_le _, rfl, Below.refl _ _⟩
  case round =>
    obtain ⟨j, hj, rfl, hbw⟩ := hrel
    by_cases hjn : j < L.length
    · obtain ⟨_, _, b1, o1, rfl, d1, d2⟩ := X1.out j L[j] (List.getElem?_eq_getElem hjn)
      obtain ⟨_, _, b2, o2, rfl, d3, d4⟩ := X2.out j L[j] (List.getElem?_eq_getElem hjn)
      have g1 := (Below.cell hbw (World.block_lt_of_cell? _ _ d1)).trans d1
      have g2 := (Below.cell hbw (World.block_lt_of_cell? _ _ d2)).trans d2
      have g3 := (Below.cell hbw (World.block_lt_of_cell? _ _ d3)).trans d3
      have g4 := (Below.cell hbw (World.block_lt_of_cell? _ _ d4)).trans d4
      clear d1 d2 d3 d4
      generalize L[j] = y at *
      go_wp2_with fail
      go_quiet (fail)
      go_wp2
      go_roundw
      case rel => exact ⟨j + 1, by omega, by go_num, below_drewN hbw _⟩
      case measure => simp [intOf]; omega
    · obtain rfl : j = L.length := by omega
      go_wp2
      go_ret
      exact ⟨rfl, hbw⟩
set_option maxRecDepth 100000 in
set_option maxHeartbeats 1000000 in
theorem SameRec_any {w : World} {x : Rc} {v1 v2 : Value} (h1 : LabsAt w v1 x.labels) (h2 : LabsAt w v2 x.labels) :
    Calls Tryz.prog 21 #[.agg #[.int .i64 x.kind, v1, .int .i64 x.t, .int .i64 x.u, .int .u64 (x.v : Int)], .agg #[.int .i64 x.kind, v2, .int .i64 x.t, .int .i64 x.u, .int .u64 (x.v : Int)]] w fun e w' => e = .returned (.bool true) ∧ Below w.heap.size w w' := by
  have b1 := (one_alloc w (.cells #[.int .i64 x.kind, v1, .int .i64 x.t, .int .i64 x.u, .int .u64 (x.v : Int)] 51)).alloc (by simp) (.cells #[.int .i64 x.kind, v2, .int .i64 x.t, .int .i64 x.u, .int .u64 (x.v : Int)] 51)
  have q := Lib.hid (Same_any (h1.below b1) (h2.below b1))
  obtain ⟨a1, c1, rfl, _⟩ := h1
  obtain ⟨a2, c2, rfl, _⟩ := h2
  have k1 := (Blk.new w 51 #[.int .i64 x.kind, .slice a1 x.labels.length c1, .int .i64 x.t, .int .i64 x.u, .int .u64 (x.v : Int)]).alloc (.cells #[.int .i64 x.kind, .slice a2 x.labels.length c2, .int .i64 x.t, .int .i64 x.u, .int .u64 (x.v : Int)] 51)
  have k2 := Blk.new (w.alloc (.cells #[.int .i64 x.kind, .slice a1 x.labels.length c1, .int .i64 x.t, .int .i64 x.u, .int .u64 (x.v : Int)] 51)) 51 #[.int .i64 x.kind, .slice a2 x.labels.length c2, .int .i64 x.t, .int .i64 x.u, .int .u64 (x.v : Int)]
  rw [World.size_alloc] at k2
  obtain ⟨⟨d0, d1, d2, d3, d4⟩, _⟩ := cells5 k1
  obtain ⟨⟨e0, e1, e2, e3, e4⟩, _⟩ := cells5 k2
  clear k1 k2
  go_enter Tryz.func21, Tryz.ntmps21
  go_wp2_with fail
  refine q.out.mono ?_
  rintro e W2 ⟨rfl, hb⟩
  go_wp2
  go_ret
  exact ⟨rfl, b1.trans (hb.mono b1.size)⟩
set_option maxRecDepth 100000 in
set_option maxHeartbeats 1000000 in
theorem SameRecs_any {w : World} {v1 v2 : Value} {R : List Rc} (h1 : RecsAt w v1 R) (h2 : RecsAt w v2 R) :
    Calls Tryz.prog 12 #[v1, v2] w fun e w' => e = .returned (.bool true) ∧ Below w.heap.size w w' := by
  obtain ⟨s1, c1, rfl, l1, x1⟩ := h1
  obtain ⟨s2, c2, rfl, _, x2⟩ := h2
  have X1 := Lib.hid x1
  have X2 := Lib.hid x2
  clear x1 x2
  go_enter Tryz.func12, Tryz.ntmps12
  go_wp2_with fail
  go_loopw [5] (fun i wr => ∃ j : Nat, j ≤ R.length ∧ i = .int .i64 (j : Int) ∧ Below w.heap.size w wr) (fun i _ => R.length - (intOf i).toNat)
  case atStart => exact ⟨0, Nat.zero_le _, rfl, Below.refl _ _⟩
  case round =>
    obtain ⟨j, hj, rfl, hbw⟩ := hrel
    by_cases hjn : j < R.length
    · obtain ⟨b1, o1, rfl, hA⟩ := X1.out j R[j] (List.getElem?_eq_getElem hjn)
      obtain ⟨b2, o2, rfl, hB⟩ := X2.out j R[j] (List.getElem?_eq_getElem hjn)
      have hA := hA.below (hbw.mono (Nat.le_refl _))
      have hB := hB.below (hbw.mono (Nat.le_refl _))
      generalize R[j] = y at *
      obtain ⟨_, sa, p0, p1, pL, p2, p3, p4⟩ := hA
      obtain ⟨_, sb, q0, q1, qL, q2, q3, q4⟩ := hB
      have Q := Lib.hid (fun W (hW : Below wr.heap.size wr W) => SameRec_any (pL.below hW) (qL.below hW))
      obtain ⟨va, vc, rfl, _⟩ := pL
      obtain ⟨ua, uc, rfl, _⟩ := qL
      have p0 := grow_cell p0
      have p1 := grow_cell p1
      have p2 := grow_cell p2
      have p3 := grow_cell p3
      have p4 := grow_cell p4
      have q0 := grow_cell q0
      have q1 := grow_cell q1
      have q2 := grow_cell q2
      have q3 := grow_cell q3
      have q4 := grow_cell q4
      go_wp2_with fail
      refine wp_region_at (R := GrowR) (by kernel_rfl) (by kernel_rfl) ?_
      (refine lex_one (by kernel_rfl) (by kernel_rfl) (by kernel_rfl) (fun K hK => ?_); go_big_quiet_step (fail); refine wpQuiet_nil (hK _ ?_); clear hK K); (refine lex_one (by kernel_rfl) (by kernel_rfl) (by kernel_rfl) (fun K hK => ?_); go_big_quiet_step (fail); refine wpQuiet_nil (hK _ ?_); clear hK K); (refine lex_one (by kernel_rfl) (by kernel_rfl) (by kernel_rfl) (fun K hK => ?_); go_big_quiet_step (fail); refine wpQuiet_nil (hK _ ?_); clear hK K); (refine lex_one (by kernel_rfl) (by kernel_rfl) (by kernel_rfl) (fun K hK => ?_); go_big_quiet_step (fail); refine wpQuiet_nil (hK _ ?_); clear hK K); (refine lex_one (by kernel_rfl) (by kernel_rfl) (by kernel_rfl) (fun K hK => ?_); go_big_quiet_step (fail); refine wpQuiet_nil (hK _ ?_); clear hK K); (refine lex_one (by kernel_rfl) (by kernel_rfl) (by kernel_rfl) (fun K hK => ?_); go_big_quiet_step (fail); refine wpQuiet_nil (hK _ ?_); clear hK K); (refine lex_one (by kernel_rfl) (by kernel_rfl) (by kernel_rfl) (fun K hK => ?_); go_big_quiet_step (fail); refine wpQuiet_nil (hK _ ?_); clear hK K); (refine lex_one (by kernel_rfl) (by kernel_rfl) (by kernel_rfl) (fun K hK => ?_); go_big_quiet_step (fail); refine wpQuiet_nil (hK _ ?_); clear hK K)
      (refine lex_call (f := 21) (args := #[.agg #[.int .i64 y.kind, .slice va y.labels.length vc, .int .i64 y.t, .int .i64 y.u, .int .u64 (y.v : Int)], .agg #[.int .i64 y.kind, .slice ua y.labels.length uc, .int .i64 y.t, .int .i64 y.u, .int .u64 (y.v : Int)]]) (v := .bool true) (by kernel_rfl) (fun _ _ h => by cases h) (by kernel_rfl) (by kernel_rfl) (fun _ => by go_simp) (fun W hW => Q.out W hW) (lex_put (type := 0) (pos := "") (fun K hK => ?_)); go_big_quiet_step (fail); refine wpQuiet_nil (hK _ ?_); clear hK K)
      (refine lex_one (by kernel_rfl) (by kernel_rfl) (by kernel_rfl) (fun K hK => ?_); go_big_quiet_step (fail); refine wpQuiet_nil (hK _ ?_); clear hK K)
      refine lex_nil (by kernel_rfl) (by kernel_rfl) (by kernel_rfl) ?_
      intro W1 hb1
      simp only [hideAll]
      have hbb := hbw.trans (Below.mono hb1 hbw.size)
      clear p0 p1 p2 p3 p4 q0 q1 q2 q3 q4 Q
      go_wp2
      go_roundw
      case rel => exact ⟨j + 1, by omega, by go_num, hbb⟩
      case measure => simp [intOf]; omega
    · obtain rfl : j = R.length := by omega
      go_wp2
      go_ret
      exact ⟨rfl, hbw⟩
end Go.Proofs.YtipdeiiipdnacaaGreat
namespace Go.Proofs.YtipdeiiipdnacaaGreat
open Go.RowKit Go.Maps Go.WideMaps
attribute [local go_sem] bs_toList bs_size

/-- Keys in a block of texts. -/
def KeysOwn (w : World) (v : Value) (K : List (List UInt8)) : Prop := KeysAt w v K ∧ ∀ b, v.ownBlock = some b → tag w b = some (some 9)
theorem KeysOwn.kept {w w' : World} {S : Nat → Prop} {v : Value} {K : List (List UInt8)} (h : KeysOwn w v K) (hk : Kept w w' S) (hS : ∀ b, tag w b = some (some 9) → ¬ S b) : KeysOwn w' v K := by
  obtain ⟨⟨p, c, rfl, h2, h3⟩, h4⟩ := h
  refine ⟨⟨p, c, rfl, h2, fun i x hx => ?_⟩, fun b hb => tag_kept (h4 b hb) hk (hS b (h4 b hb))⟩
  obtain ⟨h5, b, o, rfl, h6⟩ := h3 i x hx
  refine ⟨h5, b, o, rfl, hk.cell h6 ?_⟩
  have hlt : (Value.slice (some ⟨b, o, none⟩) K.length c).ownBlock = some b := rfl
  exact hS b (h4 b hlt)
theorem KeysOwn.below {w w' : World} {v : Value} {K : List (List UInt8)} (h : KeysOwn w v K) (hb : Below w.heap.size w w') : KeysOwn w' v K := h.kept (Kept.of_below (S := fun _ => False) hb) fun _ _ e => e
def zerosW : Array Value := #[.int .i64 0, .slice none 0 0]
/-- New blocks; and a new writer may become one with these keys. -/
structure SegR (B : Nat) (g : Int) (K : List (List UInt8)) (a b : World) : Prop where
  os : b.os = a.os
  tape : b.tape = a.tape
  output : b.output = a.output
  size : a.heap.size ≤ b.heap.size
  block : ∀ k, k < a.heap.size → b.heap[k]? = a.heap[k]? ∨ (B ≤ k ∧ (∃ h p l c, Blk a k 32 #[.int .i64 h, .slice p l c]) ∧ ∃ kv, Blk b k 32 #[.int .i64 g, kv] ∧ KeysOwn b kv K)
section
variable {B : Nat} {g : Int} {K : List (List UInt8)}
theorem writer_cell {w : World} {k o : Nat} {l : List UInt8} (h : ∃ h p l c, Blk w k 32 #[.int .i64 h, .slice p l c]) (hc : w.cell? ⟨k, o, none⟩ = some (.string (bs l))) : False := by
  obtain ⟨_, _, _, _, h⟩ := h
  have := (Blk.cell h o).symm.trans hc
  match o, this with
  | 0, this => cases this
  | 1, this => cases this
  | o + 2, this => simp at this
theorem SegR.keys {a b : World} {K' : List (List UInt8)} {kv : Value} (h : SegR B g K a b) (hk : KeysOwn a kv K') : KeysOwn b kv K' := by
  obtain ⟨⟨p, c, h1, h2, h3⟩, ht⟩ := hk
  refine ⟨⟨p, c, h1, h2, fun i x hx => ?_⟩, fun j hj => ?_⟩
  · obtain ⟨h4, b1, o, h5, h6⟩ := h3 i x hx
    refine ⟨h4, b1, o, h5, ?_⟩
    rcases h.block b1 (World.block_lt_of_cell? _ _ h6) with e | ⟨_, e, _⟩
    · exact (World.cell?_of_block e).trans h6
    · exact (writer_cell e h6).elim
  · have h1 := ht j hj
    rcases h.block j (tag_lt h1) with e | ⟨_, ⟨_, _, _, _, e⟩, _⟩
    · unfold tag at *
      rw [e]
      exact h1
    · rw [tag_blk e] at h1
      simp at h1
theorem keys_set {W W' : World} {k : Nat} {kv : Value} {K' : List (List UInt8)} (hk : Kept W W' (fun j => j = k)) (hb : ∃ h p l c, Blk W k 32 #[.int .i64 h, .slice p l c]) (h : KeysOwn W kv K') : KeysOwn W' kv K' :=
  h.kept hk fun b ht e => by
    obtain ⟨_, _, _, _, hb⟩ := hb
    rw [e, tag_blk hb] at ht
    simp at ht
theorem SegR.of_below {a b : World} (h : Below a.heap.size a b) : SegR B g K a b := ⟨h.os, h.tape, h.output, h.size, fun k hk => .inl (h.block k hk)⟩
theorem SegR.below {a b : World} (h : SegR B g K a b) (hB : B ≤ a.heap.size) : Below B a b :=
  ⟨h.os, h.tape, h.output, h.size, fun k hk => (h.block k (by omega)).resolve_right fun e => by have := e.1; omega⟩
instance : Turns (SegR B g K) where
  refl w := SegR.of_below (Below.refl _ w)
  trans {a b c} h k := ⟨k.os.trans h.os, k.tape.trans h.tape, k.output.trans h.output, Nat.le_trans h.size k.size, fun i hi => by
    rcases h.block i hi with e | ⟨e1, e2, kv, e3, e4⟩
    · rcases k.block i (Nat.lt_of_lt_of_le hi h.size) with f | ⟨f1, f2, f3⟩
      · exact .inl (f.trans e)
      · exact .inr ⟨f1, (by obtain ⟨h1, h2, h3, h4, h5⟩ := f2; exact ⟨h1, h2, h3, h4, by unfold Blk at *; rw [← e]; exact h5⟩), f3⟩
    · rcases k.block i (Nat.lt_of_lt_of_le hi h.size) with f | ⟨f1, f2, f3⟩
      · exact .inr ⟨e1, e2, kv, (by unfold Blk at *; rw [f]; exact e3), k.keys e4⟩
      · exact .inr ⟨e1, e2, f3⟩⟩
  drew w := SegR.of_below (Below.refl _ w).drew
/-- What a cell below holds, it holds. -/
theorem seg_cell {w : World} {p : Addr} {v : Value} (h : w.cell? p = some v) : ∀ x : RW (SegR w.heap.size g K) w, x.w.cell? p = some v := fun x => ((x.is.below (Nat.le_refl _)).cell (World.block_lt_of_cell? _ _ h)).trans h
/-- What put answers. -/
def putHeld (t : List UInt8) (g er : Int) (K : List (List UInt8)) : Held := fun x w => ∃ kv, x = .tuple #[.string (bs t), .agg #[.int .i64 g, kv], .int .i64 er] ∧ KeysOwn w kv K
def writHeld (g : Int) (K : List (List UInt8)) : Held := fun x w => ∃ kv, x = .agg #[.int .i64 g, kv] ∧ KeysOwn w kv K
/-- A block with the writer; or with an empty one. -/
def blkHeld (B : Nat) (g : Int) (K : List (List UInt8)) : Held := fun x w => ∃ k, x = .pointer (some ⟨k, 0, none⟩) ∧ B ≤ k ∧ k < w.heap.size ∧ (Blk w k 32 zerosW ∨ ∃ kv, Blk w k 32 #[.int .i64 g, kv] ∧ KeysOwn w kv K)
theorem putHeld_keeps {t : List UInt8} {g' er : Int} {K' : List (List UInt8)} : (putHeld t g' er K').keeps (SegR B g K) := fun _ _ _ ⟨kv, h1, h2⟩ h => ⟨kv, h1, h.keys h2⟩
theorem writHeld_keeps {g' : Int} {K' : List (List UInt8)} : (writHeld g' K').keeps (SegR B g K) := fun _ _ _ ⟨kv, h1, h2⟩ h => ⟨kv, h1, h.keys h2⟩
theorem blkHeld_keeps : (blkHeld B g K).keeps (SegR B g K) := fun x w w' ⟨k, h1, h2, h3, h4⟩ h => by
  refine ⟨k, h1, h2, Nat.lt_of_lt_of_le h3 h.size, ?_⟩
  rcases h.block k h3 with e | ⟨_, _, e⟩
  · rcases h4 with h4 | ⟨kv, h4, h5⟩
    · exact .inl (by unfold Blk at *; rw [e]; exact h4)
    · exact .inr ⟨kv, (by unfold Blk at *; rw [e]; exact h4), h.keys h5⟩
  · exact .inr e
end
section
variable {R : World → World → Prop} {P : Program} {ops : Array Oper} {w0 : World} {n : Nat} {ds : List Deferred} {F : Act → World → Prop} {rest : List Oper} {H : List (Tmp × Held)} {a : Act} {o : Oper}
/-- A part of a hidden tuple that is known. -/
theorem lex_ext [Turns R] (d : Tmp) {r : Held} (v : Value) (i : Nat) (hop : o.op = .extract (.tmp d) i) (hgd : o.guard = none) (hh : heldBy H d = some r) (hd : writesFree H a o.dst = true)
    (hr : ∀ x w, r x w → ∃ vs, x = .tuple vs ∧ vs[i]? = some v) (h : lexAt R P ops w0 n ds F rest H (a.put o.dst v)) : lexAt R P ops w0 n ds F (o :: rest) H a := by
  refine ⟨fun x _ => x = v, fun _ _ _ h _ => h, fun c w hR hf => .inr ⟨?_, fun K Q' hK => ?_⟩, by rw [fits_put hd]; exact h⟩
  · unfold Region.wanted
    rw [hgd]
  · have h1 := hf d (by simp [Oper.looksAt, hop, hgd, Op.operands])
    unfold fits at h1
    rw [hh] at h1
    obtain ⟨vs, e1, e2⟩ := hr _ _ h1
    unfold Oper.wp execOp
    rw [hop]
    simp only [e1, Sem.run_bind, Instr.extract, e2, Sem.run_pure, Result.andThen_ok]
    exact hK _ _ (Turns.refl w) rfl
/-- A part of a hidden tuple, hidden. -/
theorem lex_exth [Turns R] (d e : Tmp) {r s : Held} (i : Nat) (hop : o.op = .extract (.tmp d) i) (hgd : o.guard = none) (hh : heldBy H d = some r) (hk : s.keeps R) (hd : o.dst = some e)
    (hr : ∀ x w, r x w → ∃ vs v, x = .tuple vs ∧ vs[i]? = some v ∧ s v w) (h : lexAt R P ops w0 n ds F rest ((e, s) :: H) a) : lexAt R P ops w0 n ds F (o :: rest) H a := by
  refine lex_any hk (fun c w hR hf => .inr ⟨?_, fun K Q' hK => ?_⟩) hd h
  · unfold Region.wanted
    rw [hgd]
  · have h1 := hf d (by simp [Oper.looksAt, hop, hgd, Op.operands])
    unfold fits at h1
    rw [hh] at h1
    obtain ⟨vs, v, e1, e2, e3⟩ := hr _ _ h1
    unfold Oper.wp execOp
    rw [hop]
    simp only [e1, Sem.run_bind, Instr.extract, e2, Sem.run_pure, Result.andThen_ok]
    exact hK _ _ (Turns.refl w) e3
/-- A hidden value is stored to a hidden place. -/
theorem lex_store [Turns R] (d e : Tmp) {r s : Held} {T : TypeId} (hop : o.op = .store T (.tmp d) (.tmp e)) (hgd : o.guard = none) (hd : heldBy H d = some r) (he : heldBy H e = some s) (hdst : o.dst = none)
    (hr : ∀ (c : Act) w, R w0 w → r (c.eval (.tmp d)) w → s (c.eval (.tmp e)) w → ∃ w', (execOp c.eval o).run P w = .ok .skip w' ∧ R w w')
    (h : lexAt R P ops w0 n ds F rest H a) : lexAt R P ops w0 n ds F (o :: rest) H a := by
  refine ⟨fun _ _ => True, fun _ _ _ _ _ => trivial, fun c w hR hf => .inr ⟨?_, fun K Q' hK => ?_⟩, ?_⟩
  · unfold Region.wanted
    rw [hgd]
  · have h1 := hf d (by simp [Oper.looksAt, hop, hgd, Op.operands])
    have h2 := hf e (by simp [Oper.looksAt, hop, hgd, Op.operands])
    unfold fits at h1 h2
    rw [hd] at h1
    rw [he] at h2
    obtain ⟨w', h3, h4⟩ := hr c w hR h1 h2
    unfold Oper.wp
    rw [h3]
    exact hK _ _ h4 trivial
  · have : (fun t => if o.dst = some t then (fun _ _ => True : Held) else fits H a t) = fits H a := by
      funext t
      rw [hdst]
      simp
    rw [this]
    exact h
end
/-- The keys behind a put. -/
def putK (g : Int) (K : List (List UInt8)) (R : List Rc) : List (List UInt8) := match (walPut g K R).2.1 with
  | none => K
  | some K' => K'
theorem walPut_shape (g : Int) (K : List (List UInt8)) (R : List Rc) : ((walPut g K R).2.1 = none ∧ (walPut g K R).1 = [] ∧ (walPut g K R).2.2 ≠ 0) ∨ (∃ K', (walPut g K R).2.1 = some K' ∧ (walPut g K R).2.2 = 0) := by
  unfold walPut
  split
  · exact .inl ⟨rfl, rfl, by simp⟩
  · split
    · rename_i h
      exact .inl ⟨rfl, rfl, h⟩
    · split
      · exact .inl ⟨rfl, rfl, by simp⟩
      · exact .inr ⟨_, rfl, rfl⟩
theorem put_all {W W' : World} {g : Int} {kv : Value} {K : List (List UInt8)} {R : List Rc} {e : Ending} (h : PutIs W g kv K R e W') (hK : KeysOwn W kv K) : Below W.heap.size W W' ∧ ∃ x, e = .returned x ∧ putHeld (walPut g K R).1 g (walPut g K R).2.2 (putK g K R) x W' := by
  unfold PutIs at h
  obtain ⟨hb, h⟩ := h
  refine ⟨hb, ?_⟩
  unfold putK
  rcases walPut_shape g K R with ⟨h1, h2, _⟩ | ⟨K', h1, h2⟩
  · rw [h1] at h ⊢
    refine ⟨_, h, kv, ?_, hK.below hb⟩
    rw [h2]
    rfl
  · rw [h1] at h ⊢
    obtain ⟨kv', he, hk⟩ := h
    refine ⟨_, he, kv', ?_, hk⟩
    rw [h2]
    rfl
end Go.Proofs.YtipdeiiipdnacaaGreat
namespace Go.Proofs.YtipdeiiipdnacaaGreat
open Go.RowKit Go.Maps Go.WideMaps
attribute [local go_sem] bs_toList bs_size

/-- A slice of rows of changes. -/
def RowsAt (w : World) (v : Value) (LL : List (List Rc)) : Prop :=
  ∃ a c, v = .slice a LL.length c ∧ LL.length ≤ 1000 ∧ ∀ (i : Nat) R, LL[i]? = some R → ∃ b o rv, a = some ⟨b, o, none⟩ ∧ w.cell? ⟨b, o + i, none⟩ = some rv ∧ RecsAt w rv R ∧ R.length ≤ 100
theorem RowsAt.below {w w' : World} {v : Value} {LL : List (List Rc)} (h : RowsAt w v LL) (hb : Below w.heap.size w w') : RowsAt w' v LL := by
  obtain ⟨a, c, h1, h2, h3⟩ := h
  refine ⟨a, c, h1, h2, fun i R hR => ?_⟩
  obtain ⟨b, o, rv, h4, h5, h6, h7⟩ := h3 i R hR
  exact ⟨b, o, rv, h4, (Below.cell hb (World.block_lt_of_cell? _ _ h5)).trans h5, h6.below hb, h7⟩
/-- Rows of changes as bytes, behind keys; the keys then. -/
def segB (g : Int) : List (List UInt8) → List (List Rc) → Option (List UInt8 × List (List UInt8))
  | K, [] => some ([], K)
  | K, R :: LL => match (walPut g K R).2.1 with
    | none => none
    | some K1 => (segB g K1 LL).map fun x => ((walPut g K R).1 ++ x.1, x.2)
theorem segB_snoc (g : Int) : ∀ (LL : List (List Rc)) (K K1 K2 : List (List UInt8)) (s : List UInt8) (R : List Rc), segB g K LL = some (s, K1) → (walPut g K1 R).2.1 = some K2 → segB g K (LL ++ [R]) = some (s ++ (walPut g K1 R).1, K2)
  | [], K, K1, K2, s, R, h, hp => by
    obtain ⟨rfl, rfl⟩ := Prod.mk.inj (Option.some.inj h)
    simp [segB, hp]
  | R0 :: LL, K, K1, K2, s, R, h, hp => by
    unfold segB at h
    rw [List.cons_append]
    unfold segB
    cases ho : (walPut g K R0).2.1 with
    | none => rw [ho] at h; cases h
    | some K3 =>
      rw [ho] at h
      simp only at h ⊢
      cases hs : segB g K3 LL with
      | none => rw [hs] at h; cases h
      | some z =>
        obtain ⟨s3, K4⟩ := z
        rw [hs] at h
        obtain ⟨rfl, rfl⟩ := Prod.mk.inj (Option.some.inj h)
        rw [segB_snoc g LL K3 K4 K2 s3 R hs hp]
        simp
theorem smallPut_bd : ∀ (R : List Rc) (K : List (List UInt8)) (s : List UInt8), (smallPut K R).1 = some s → s.length ≤ R.length * 20100
  | [], K, s, h => by
    obtain rfl := Option.some.inj h
    simp
  | x :: R, K, s, h => by
    unfold smallPut at h
    split at h
    · cases h
    · rename_i hl
      simp only at h
      cases hs : (smallPut (smallOne K x).2 R).1 with
      | none => rw [hs] at h; cases h
      | some s2 =>
        rw [hs] at h
        obtain rfl := Option.some.inj h
        have ih := smallPut_bd R _ s2 hs
        have h1 := Num.small_len (smallOne K x).1.length
        rw [List.length_append, List.length_cons]
        unfold framePut
        rw [checkedB_len, Num.text_len]
        omega
theorem fixPut_bd : ∀ (R : List Rc), (∀ x ∈ R, x.labels.length ≤ 6) → (fixPut R).length = R.length * 186
  | [], _ => rfl
  | x :: R, h => by
    have ih := fixPut_bd R fun y hy => h y (List.mem_cons_of_mem _ hy)
    unfold fixPut at *
    rw [List.flatMap_cons, List.length_append, ih, oneB_len x (h x List.mem_cons_self), List.length_cons]
    omega
set_option maxRecDepth 100000 in
theorem walPut_bd (g : Int) (K : List (List UInt8)) (R : List Rc) : (walPut g K R).1.length ≤ (R.length + 1) * 20100 := by
  unfold walPut
  split
  · exact Nat.zero_le _
  · split
    · exact Nat.zero_le _
    · rename_i hf
      have hv := firstE_zero g R (by simpa using hf)
      split
      · exact Nat.zero_le _
      · rename_i s K' hp
        simp only
        unfold putBy at hp
        split at hp
        · obtain ⟨h1, _⟩ := Prod.mk.inj hp
          obtain rfl := Option.some.inj h1
          rw [fixPut_bd R fun x hx => (right_fits x (valid_right x g (hv x hx))).1.2]
          omega
        · split at hp
          · have := smallPut_bd R K s (by rw [hp])
            omega
          · obtain ⟨h1, _⟩ := Prod.mk.inj hp
            split at h1
            · rename_i hb
              obtain rfl := Option.some.inj h1
              unfold batPut at hb ⊢
              split
              · exact Nat.zero_le _
              · rename_i hne
                rw [if_neg hne] at hb
                have hb2 : (Num.small R.length ++ (batLoop K 0 0 R).1).length ≤ 20000 := by simpa using hb
                have h2 := Num.small_len (Num.small R.length ++ (batLoop K 0 0 R).1).length
                simp only
                unfold framePut
                rw [checkedB_len, Num.text_len]
                omega
            · cases h1
theorem headB_len (magic : List UInt8) (g f : Nat) : (headB magic g f).length = magic.length + 6 := by
  unfold headB
  rw [checkedB_len]
  simp
theorem headB_ten (g : Int) : (headB magicB g.toNat 0).length = 10 := headB_len magicB g.toNat 0
/-- Where a row ends. -/
def endAt (g : Int) (LL : List (List Rc)) (j : Nat) : Nat := match segB g [] (LL.take j) with
  | none => 0
  | some (s, _) => 10 + s.length
def endsL (g : Int) (LL : List (List Rc)) (i : Nat) : List Value := (List.range (i + 1)).map fun j => .int .i64 ((endAt g LL j : Nat) : Int)
def cntsL (LL : List (List Rc)) (i : Nat) : List Value := (List.range (i + 1)).map fun j => .int .i64 (((LL.take j).flatten.length : Nat) : Int)
theorem endsL_succ (g : Int) (LL : List (List Rc)) (i : Nat) : endsL g LL (i + 1) = endsL g LL i ++ [.int .i64 ((endAt g LL (i + 1) : Nat) : Int)] := by
  unfold endsL
  rw [List.range_succ, List.map_append]
  rfl
theorem cntsL_succ (LL : List (List Rc)) (i : Nat) : cntsL LL (i + 1) = cntsL LL i ++ [.int .i64 (((LL.take (i + 1)).flatten.length : Nat) : Int)] := by
  unfold cntsL
  rw [List.range_succ, List.map_append]
  rfl
theorem endsL_len (g : Int) (LL : List (List Rc)) (i : Nat) : (endsL g LL i).length = i + 1 := by simp [endsL]
theorem cntsL_len (LL : List (List Rc)) (i : Nat) : (cntsL LL i).length = i + 1 := by simp [cntsL]
/-- A row of values of one cell each. -/
def ValsAt (w : World) (v : Value) (E : List Value) : Prop :=
  ∃ a c, v = .slice a E.length c ∧ ∀ i x, E[i]? = some x → ∃ b o, a = some ⟨b, o, none⟩ ∧ w.cell? ⟨b, o + i, none⟩ = some x
theorem ValsAt.below {w w' : World} {v : Value} {E : List Value} (h : ValsAt w v E) (hb : Below w.heap.size w w') : ValsAt w' v E := by
  obtain ⟨a, c, h1, h2⟩ := h
  refine ⟨a, c, h1, fun i x hx => ?_⟩
  obtain ⟨b, o, h3, h4⟩ := h2 i x hx
  exact ⟨b, o, h3, (Below.cell hb (World.block_lt_of_cell? _ _ h4)).trans h4⟩
theorem vals_of_own {w : World} {B n : Nat} {e : TypeId} {v : Value} {E : List Value} (h : w.ownsRow B e 1 v n E) (hn : E.length = n) : ValsAt w v E := by
  obtain ⟨a, c, rfl⟩ := row_form h
  subst hn
  refine ⟨a, c, rfl, fun i x hx => ?_⟩
  rcases Nat.eq_zero_or_pos E.length with h0 | h0
  · rw [List.length_eq_zero_iff.1 h0] at hx
    simp at hx
  · have hf : ∃ g cap, Value.slice a E.length c = .slice (some ⟨g, 0, none⟩) E.length cap := by
      rcases h.2 with ⟨he, _⟩ | ⟨g, cap, _, he, _⟩
      · have := (Value.slice.inj he).2.1
        omega
      · exact ⟨g, cap, he⟩
    obtain ⟨g, cap, he⟩ := hf
    obtain ⟨rfl, _, rfl⟩ := Value.slice.inj he
    refine ⟨g, 0, rfl, ?_⟩
    have h1 := h.cells (g := g) rfl i x hx
    have h2 : ((⟨g, 0, none⟩ : Addr).add i) = ⟨g, 0 + i, none⟩ := by
      unfold Addr.add
      split
      · subst_vars
        rfl
      · rfl
    rw [h2] at h1
    exact h1
def SegIs (g : Int) (LL : List (List Rc)) (e : Ending) (w' : World) : Prop :=
  ∃ st a1 c1 n1 a2 c2 n2 b, e = .returned (.tuple #[.string (bs st), .slice a1 n1 c1, .slice a2 n2 c2, .bool b]) ∧ (b = true → knownB g = true ∧ ∃ s K, segB g [] LL = some (s, K) ∧ st = headB magicB g.toNat 0 ++ s ∧ ValsAt w' (.slice a1 n1 c1) (endsL g LL LL.length) ∧ ValsAt w' (.slice a2 n2 c2) (cntsL LL LL.length))
end Go.Proofs.YtipdeiiipdnacaaGreat
namespace Go.Proofs.YtipdeiiipdnacaaGreat
open Go.RowKit Go.Maps Go.WideMaps
attribute [local go_sem] bs_toList bs_size

theorem putK_len (g : Int) (K : List (List UInt8)) (R : List Rc) : (putK g K R).length ≤ K.length + R.length := by
  unfold putK
  cases ho : (walPut g K R).2.1 with
  | none => exact Nat.le_add_right _ _
  | some K' =>
    obtain ⟨_, hp, hv, _⟩ := walPut_some g K R (walPut g K R).1 K' (walPut g K R).2.2 (by rw [← ho])
    have := (putBy_keys g K R fun x hx => (right_fits x (valid_right x g (hv x hx))).2.2.2.1).1
    rw [hp] at this
    exact this
theorem keysOwn_nil (W : World) : KeysOwn W (.slice none 0 0) [] := ⟨keys_nil W, fun b hb => by cases hb⟩
theorem begin_form (g : Int) : ∃ s0 g0 e0, beginV g = .tuple #[.string (bs s0), .agg #[.int .i64 g0, .slice none 0 0], .int .i64 e0] ∧ s0.length ≤ 10 ∧ (g0 = g ∨ g0 = 0) ∧ (e0 = 0 → knownB g = true ∧ s0 = headB magicB g.toNat 0 ∧ g0 = g) := by
  unfold beginV
  cases hk : knownB g with
  | false => exact ⟨[], 0, 1, rfl, by simp, .inr rfl, fun e => by cases e⟩
  | true =>
    refine ⟨headB magicB g.toNat 0, g, 0, rfl, ?_, .inl rfl, fun _ => ⟨rfl, rfl, rfl⟩⟩
    unfold headB
    rw [checkedB_len]
    exact Nat.le_refl _
set_option maxRecDepth 100000 in
set_option maxHeartbeats 8000000 in
theorem segment_any (g : Int) (v : Value) (LL : List (List Rc)) (w : World) (h : RowsAt w v LL) (g1 : -9223372036854775808 ≤ g) (g2 : g ≤ 9223372036854775807) :
    Calls Tryz.prog 10 #[.int .i64 g, v] w fun e w' => SegIs g LL e w' ∧ Below w.heap.size w w' := by
  obtain ⟨va, vc, rfl, hn, hc⟩ := h
  have HC := Lib.hid hc
  clear hc
  obtain ⟨s0, g0, e0, hbv, hs0, hg0, hI⟩ := begin_form g
  have qB := Lib.hid (fun W => Begin_any g W)
  rw [hbv] at qB
  clear hbv
  have HI := Lib.hid hI
  clear hI
  go_enter Tryz.func10, Tryz.ntmps10
  go_wp2_with fail
  refine (qB.out _).mono ?_
  rintro e W1 ⟨rfl, b1⟩
  have kw := Blk.new W1 32 #[.int .i64 g0, .slice none 0 0]
  have b2 := one_alloc W1 (.cells #[.int .i64 g0, .slice none 0 0] 32)
  have B2 := b1.trans (b2.mono b1.size)
  clear qB b2
  generalize hW2 : W1.alloc (.cells #[.int .i64 g0, .slice none 0 0] 32) = W2 at *
  have r1 : (W2.alloc (.cells #[.int .i64 (s0.length : Int)] 3)).ownsRow w.heap.size 3 1 (.slice (some ⟨W2.heap.size, 0, none⟩) 1 1) 1 [.int .i64 (s0.length : Int)] := World.ownsRow_lit W2 _ 1 B2.size (by decide) rfl
  have b3 := one_alloc W2 (.cells #[.int .i64 (s0.length : Int)] 3)
  have b4 := b3.alloc b3.size (.cells #[.int .i64 0] 3)
  have r2 : ((W2.alloc (.cells #[.int .i64 (s0.length : Int)] 3)).alloc (.cells #[.int .i64 0] 3)).ownsRow w.heap.size 3 1 (.slice (some ⟨W2.heap.size + 1, 0, none⟩) 1 1) 1 [.int .i64 0] := by
    have := World.ownsRow_lit (base := w.heap.size) (e := 3) (size := 1) (W2.alloc (.cells #[.int .i64 (s0.length : Int)] 3)) #[.int .i64 0] 1 (by have := B2.size; simp; omega) (by decide) rfl
    rwa [World.size_alloc] at this
  have r1 := World.ownsRow.alloc r1 (.cells #[.int .i64 0] 3)
  have B4 := B2.trans (b4.mono B2.size)
  have kw4 := Blk.below kw b4 kw.lt
  subst hW2
  go_wp2_with fail
  rw [World.size_alloc] at r1 r2
  generalize ((W1.alloc (.cells #[.int .i64 g0, .slice none 0 0] 32)).alloc (.cells #[.int .i64 (s0.length : Int)] 3)).alloc (.cells #[.int .i64 0] 3) = W4 at *
  have hkb : w.heap.size ≤ W1.heap.size := b1.size
  generalize W1.heap.size = kb at *
  clear kw B2 b3 b4
  have hG12 : kb + 1 ≠ kb + 1 + 1 := by omega
  generalize hwb : w.heap.size = bw at *
  go_loopw [8, 10, 11, 12, 13, 14] (fun v8 v10 v11 v12 v13 v14 wr => ∃ (i : Nat) (st : List UInt8) (er : Int) (n1 n2 : Nat) (E C : List Value) (nn : Nat) (gw : Int) (kvw : Value) (Kw : List (List UInt8)), i ≤ LL.length ∧ v8 = .string (bs st) ∧ v10 = .int .i64 er ∧ v14 = .int .i64 (i : Int) ∧ v13 = .int .i64 (nn : Int) ∧ nn ≤ i * 100 ∧ st.length ≤ 10 + i * 2100000 ∧
      n1 ≤ i + 1 ∧ n2 ≤ i + 1 ∧ wr.ownsRow bw 3 1 v11 n1 E ∧ wr.ownsRow bw 3 1 v12 n2 C ∧ v11.ownBlock ≠ v12.ownBlock ∧ Blk wr kb 32 #[.int .i64 gw, kvw] ∧ KeysOwn wr kvw Kw ∧ (gw = g ∨ gw = 0) ∧ Kw.length ≤ i * 100 ∧
      (er = 0 → knownB g = true ∧ ∃ s K, segB g [] (LL.take i) = some (s, K) ∧ st = headB magicB g.toNat 0 ++ s ∧ (gw = g → Kw = K) ∧ E = endsL g LL i ∧ C = cntsL LL i ∧ nn = (LL.take i).flatten.length) ∧ Below bw w wr) (fun _ _ _ _ _ v14 _ => LL.length - (intOf v14).toNat)
  case atStart =>
    refine ⟨0, s0, e0, 1, 1, _, _, 0, g0, .slice none 0 0, [], Nat.zero_le _, rfl, rfl, rfl, rfl, by omega, by omega, by omega, by omega, r1, r2, (fun e => by have : kb + 1 = kb + 1 + 1 := Option.some.inj e; omega), kw4, keysOwn_nil _, hg0, by simp, fun e => ?_, B4⟩
    obtain ⟨i1, i2, i3⟩ := HI.out e
    exact ⟨i1, [], [], rfl, by rw [i2, List.append_nil], fun _ => rfl, by rw [i2, headB_ten]; rfl, rfl, rfl⟩
  clear r1 r2 kw4 B4
  obtain ⟨i, st, er, n1, n2, E, C, nn, gw, kvw, Kw, hi, rfl, rfl, rfl, rfl, hnn, hst, hn1, hn2, hr1, hr2, hne, hkw, hKw, hgw, hKl, hG, hbw⟩ := hrel
  have HG := Lib.hid hG
  clear hG
  obtain ⟨a1, c1, rfl⟩ := row_form hr1
  obtain ⟨a2, c2, rfl⟩ := row_form hr2
  by_cases hil : i < LL.length
  · by_cases her : er = 0
    · subst her
      subst hwb
      obtain ⟨hkg, sP, KP, hsP, hstP, hKP, hEE, hCC, hNN⟩ := HG.out rfl
      have HEE := Lib.hid hEE
      have HCC := Lib.hid hCC
      have HNN := Lib.hid hNN
      clear hEE hCC hNN
      have HStP := Lib.hid hstP
      clear hstP
      obtain ⟨bb, oo, rv, rfl, cr, hRA, hR1⟩ := HC.out i LL[i] (List.getElem?_eq_getElem hil)
      have HS := Lib.hid (fun K2 (hp : (walPut g KP LL[i]).2.1 = some K2) => segB_snoc g (LL.take i) [] KP K2 sP LL[i] hsP hp)
      have HTk := Lib.hid (show LL.take i ++ [LL[i]] = LL.take (i + 1) from (List.take_succ_eq_append_getElem hil).symm)
      generalize LL[i] = R at *
      have cr1 := (Below.cell hbw (World.block_lt_of_cell? _ _ cr)).trans cr
      have hRAw := hRA.below hbw
      obtain ⟨pw, cw, rfl, _⟩ := id hKw.1
      obtain ⟨⟨k0, k1⟩, f0, f1⟩ := cells2 hkw
      have hbd := walPut_bd gw Kw R
      have hgb : -9223372036854775808 ≤ gw ∧ gw ≤ 9223372036854775807 := by omega
      have QP := Lib.hid (show ∀ (W : World), SegR wr.heap.size gw (putK gw Kw R) wr W → Calls Tryz.prog 13 #[.agg #[.int .i64 gw, .slice pw Kw.length cw], rv] W fun e W' => ∃ x, e = .returned x ∧ SegR wr.heap.size gw (putK gw Kw R) W W' ∧ putHeld (walPut gw Kw R).1 gw (walPut gw Kw R).2.2 (putK gw Kw R) x W' from fun W hW => (Put_any gw (.slice pw Kw.length cw) rv Kw R W (hW.keys hKw).1 (hRAw.below (hW.below (Nat.le_refl _))) (by omega) hR1 hgb.1 hgb.2).mono fun e W' hp => by
        obtain ⟨hb, x, h1, h2⟩ := put_all hp (hW.keys hKw)
        exact ⟨x, h1, SegR.of_below hb, h2⟩)
      have hKl2 := putK_len gw Kw R
      have HSh := Lib.hid (walPut_shape gw Kw R)
      have HSo := Lib.hid (fun K' (hk : (walPut gw Kw R).2.1 = some K') => walPut_some gw Kw R (walPut gw Kw R).1 K' (walPut gw Kw R).2.2 (by rw [← hk]))
      have HKy := Lib.hid (show ∀ K', (walPut gw Kw R).2.1 = some K' → putK gw Kw R = K' from fun K' hk => by unfold putK; rw [hk])
      generalize hwp : walPut gw Kw R = wp at *
      obtain ⟨t, ok, ep⟩ := wp
      simp only at hbd QP HSh HSo HKy
      generalize putK gw Kw R = K2 at *
      obtain ⟨rva, rvc, rfl, _⟩ := id hRAw
      have k0' := seg_cell (g := gw) (K := K2) k0
      have k1' := seg_cell (g := gw) (K := K2) k1
      have cr' := seg_cell (g := gw) (K := K2) cr1
      go_wp2_with fail
      refine wp_region_at (R := SegR wr.heap.size gw K2) (by kernel_rfl) (by kernel_rfl) ?_
      (refine lex_one (by kernel_rfl) (by kernel_rfl) (by kernel_rfl) (fun K hK => ?_); go_big_quiet_step (fail); refine wpQuiet_nil (hK _ ?_); clear hK K); (refine lex_one (by kernel_rfl) (by kernel_rfl) (by kernel_rfl) (fun K hK => ?_); go_big_quiet_step (fail); refine wpQuiet_nil (hK _ ?_); clear hK K); (refine lex_one (by kernel_rfl) (by kernel_rfl) (by kernel_rfl) (fun K hK => ?_); go_big_quiet_step (fail); refine wpQuiet_nil (hK _ ?_); clear hK K); (refine lex_one (by kernel_rfl) (by kernel_rfl) (by kernel_rfl) (fun K hK => ?_); go_big_quiet_step (fail); refine wpQuiet_nil (hK _ ?_); clear hK K); (refine lex_one (by kernel_rfl) (by kernel_rfl) (by kernel_rfl) (fun K hK => ?_); go_big_quiet_step (fail); refine wpQuiet_nil (hK _ ?_); clear hK K)
      refine lex_callh (f := 13) (args := #[.agg #[.int .i64 gw, .slice pw Kw.length cw], .slice rva R.length rvc]) (r := putHeld t gw ep K2) putHeld_keeps (by kernel_rfl) (fun _ _ h => by cases h) (by kernel_rfl) rfl (fun _ => by go_simp) (fun W hW => QP.out W hW) ?_
      refine lex_hmove 44 38 (.inr rfl) rfl rfl putHeld_keeps rfl ?_
      refine lex_ext 38 (.string (bs t)) 0 rfl rfl rfl (by kernel_rfl) (fun x w ⟨kv, h1, h2⟩ => ⟨_, h1, rfl⟩) (lex_put (type := 0) (pos := "") (fun K hK => ?_)); go_big_quiet_step (fail); refine wpQuiet_nil (hK _ ?_); clear hK K
      refine lex_exth 38 46 (s := writHeld gw K2) 1 rfl rfl rfl writHeld_keeps rfl (fun x w ⟨kv, h1, h2⟩ => ⟨_, _, h1, rfl, kv, rfl, h2⟩) ?_
      refine lex_ext 38 (.int .i64 ep) 2 rfl rfl rfl (by kernel_rfl) (fun x w ⟨kv, h1, h2⟩ => ⟨_, h1, rfl⟩) (lex_put (type := 0) (pos := "") (fun K hK => ?_)); go_big_quiet_step (fail); refine wpQuiet_nil (hK _ ?_); clear hK K
      refine lex_make (d := 16) (r := blkHeld wr.heap.size gw K2) blkHeld_keeps (by kernel_rfl) (fun _ _ h => by cases h) (by kernel_rfl) rfl (fun W hW => ⟨.pointer (some ⟨W.heap.size, 0, none⟩), W.alloc (.cells #[.int .i64 0, .slice none 0 0] 32), by go_simp, SegR.of_below (one_alloc _ _), W.heap.size, rfl, hW.size, by simp, .inl (Blk.new _ _ _)⟩) ?_
      (refine lex_one (by kernel_rfl) (by kernel_rfl) (by kernel_rfl) (fun K hK => ?_); go_big_quiet_step (fail); refine wpQuiet_nil (hK _ ?_); clear hK K)
      refine lex_store 16 46 (T := 32) rfl rfl rfl rfl rfl (fun c W hW h16 h46 => ?_) ?_
      · obtain ⟨k, e1, hk1, hk2, hk3⟩ := h16
        obtain ⟨kv, e2, hkv⟩ := h46
        obtain ⟨kp, kc, rfl, _⟩ := id hkv.1
        have hfin : ∀ (u0 : Int) (p : Option Addr) (l c : Nat), Blk W k 32 #[.int .i64 u0, .slice p l c] → SegR wr.heap.size gw K2 W ((W.setCell ⟨k, 0, none⟩ (.int .i64 gw)).setCell ⟨k, 1, none⟩ (.slice kp K2.length kc)) := fun u0 p l c hb => by
          have hs := set2 hb (.int .i64 gw) (.slice kp K2.length kc)
          refine ⟨hs.2.os, hs.2.tape, hs.2.output, hs.2.size, fun j hj => ?_⟩
          by_cases hjk : j = k
          · subst hjk
            refine .inr ⟨hk1, ⟨_, _, _, _, hb⟩, _, hs.1, ?_⟩
            exact keys_set hs.2 ⟨_, _, _, _, hb⟩ hkv
          · exact .inl (hs.2.block j hj hjk)
        rcases hk3 with hb | ⟨kv0, hb, hkb⟩
        · obtain ⟨⟨w0, w1⟩, v0, v1⟩ := cells2 (show Blk W k 32 #[.int .i64 0, .slice none 0 0] from hb)
          refine ⟨_, ?_, hfin _ _ _ _ hb⟩
          simp only [execOp, e1, e2]
          go_simp
        · obtain ⟨kp0, kc0, rfl, _⟩ := id hkb.1
          obtain ⟨⟨w0, w1⟩, v0, v1⟩ := cells2 hb
          refine ⟨_, ?_, hfin _ _ _ _ hb⟩
          simp only [execOp, e1, e2]
          go_simp
      (refine lex_one (by kernel_rfl) (by kernel_rfl) (by kernel_rfl) (fun K hK => ?_); go_big_quiet_step (fail); refine wpQuiet_nil (hK _ ?_); clear hK K)
      refine lex_nil (by kernel_rfl) (by kernel_rfl) (by kernel_rfl) ?_
      intro W6 hW6
      simp only [hideAll]
      rintro _ ⟨k, rfl, hk1, hk2, hk3⟩ _ ⟨kv6, rfl, hkv6⟩ _ ⟨kv7, rfl, _⟩ _ ⟨kv8, rfl, _⟩
      have hc6 : ∃ (gn : Int) (p : Option Addr) (c : Nat) (Kn : List (List UInt8)), Blk W6 k 32 #[.int .i64 gn, .slice p Kn.length c] ∧ KeysOwn W6 (.slice p Kn.length c) Kn ∧ (gn = gw ∧ Kn = K2 ∨ gn = 0 ∧ Kn = []) := by
        rcases hk3 with hb | ⟨kv0, hb, hkb⟩
        · exact ⟨0, none, 0, [], hb, keysOwn_nil _, .inr ⟨rfl, rfl⟩⟩
        · obtain ⟨p, c, rfl, _⟩ := id hkb.1
          exact ⟨gw, p, c, K2, hb, hkb, .inl ⟨rfl, rfl⟩⟩
      obtain ⟨gn, pn, cn, Kn, hbk, hkn, hgn⟩ := hc6
      have hb6 := hW6.below (Nat.le_refl _)
      have hkw6 := Blk.below hkw hb6 hkw.lt
      have hs7 := set2 hkw6 (.int .i64 gn) (.slice pn Kn.length cn)
      obtain ⟨⟨x0, x1⟩, _⟩ := cells2 hbk
      obtain ⟨⟨y0, y1⟩, v0, v1⟩ := cells2 hkw6
      have hkn7 := keys_set hs7.2 ⟨_, _, _, _, hkw6⟩ hkn
      have hbb : bb < w.heap.size := World.block_lt_of_cell? _ _ cr
      have cr7 := hs7.2.cell ((hb6.cell (World.block_lt_of_cell? _ _ cr1)).trans cr1) (fun (e : bb = kb) => by omega)
      have hr17 := ownsRow_kept (ownsRow_kept hr1 (Kept.of_below (S := fun _ => False) hb6) (fun _ _ e => e)) hs7.2 (fun b hb e => by have h1 := tag_row hr1 hb; rw [e, tag_blk hkw] at h1; simp at h1)
      have hr27 := ownsRow_kept (ownsRow_kept hr2 (Kept.of_below (S := fun _ => False) hb6) (fun _ _ e => e)) hs7.2 (fun b hb e => by have h1 := tag_row hr2 hb; rw [e, tag_blk hkw] at h1; simp at h1)
      have hbw6 := hbw.trans (hb6.mono hbw.size)
      have hadd : ∀ W, (Op.stringOp .add (bs st) (bs t)).run Tryz.prog W = .ok (.string (bs (st ++ t))) W := fun W => run_add_bs (P := Tryz.prog) _ _ (by omega) W
      clear cr' k0' k1' k0 k1 f0 f1 QP hW6 hk3
      have hW7 : ∃ W7, ((W6.setCell ⟨kb, 0, none⟩ (.int .i64 gn)).setCell ⟨kb, 1, none⟩ (.slice pn Kn.length cn)) = W7 := ⟨_, rfl⟩
      have hb7s : w.heap.size ≤ ((W6.setCell ⟨kb, 0, none⟩ (.int .i64 gn)).setCell ⟨kb, 1, none⟩ (.slice pn Kn.length cn)).heap.size := by
        have h1 := hs7.2.size
        have h2 := hbw6.size
        omega
      have hbw7 := hbw6.trans (Kept.below hs7.2 (show w.heap.size ≤ W6.heap.size by have := hbw6.size; omega) (fun j hj => by omega))
      have hkb7 := hs7.1
      have ⟨i0, hin, hz0, hz1, hz2⟩ := info_parts (show (Tryz.prog.info? 3).map (fun i => (i.zero, i.size, i.bytes)) = some (some (.int .i64 0), 1, 8) by kernel_rfl)
      clear hs7 hW7
      have t1 : n1 + 1 ≤ maxLen := by unfold maxLen; omega
      have t2 : (n1 + 1) * 8 ≤ 140737488355328 := by omega
      have t3 := World.ownsRow.alloc hr17 (.cells #[.int .i64 ((st.length : Int) + (t.length : Int))] 3)
      have t4 := Nat.le_trans hb7s (one_alloc ((W6.setCell ⟨kb, 0, none⟩ (.int .i64 gn)).setCell ⟨kb, 1, none⟩ (.slice pn Kn.length cn)) (.cells #[.int .i64 ((st.length : Int) + (t.length : Int))] 3)).size
      have t5 := cells_list_new ((W6.setCell ⟨kb, 0, none⟩ (.int .i64 gn)).setCell ⟨kb, 1, none⟩ (.slice pn Kn.length cn)) [.int .i64 ((st.length : Int) + (t.length : Int))] 3
      have hsz : ((W6.setCell ⟨kb, 0, none⟩ (.int .i64 gn)).setCell ⟨kb, 1, none⟩ (.slice pn Kn.length cn)).heap.size = W6.heap.size := by simp
      rw [hsz] at t5
      have HA := Lib.hid <| fun (ops : Array Oper) (rest : List Oper) (o : Oper) (a : Act) (Q : Exit → Act → World → Prop) (hgd : o.guard = none) (ho : o.op = .call { callee := .builtin .append, args := #[.tmp 60, .tmp 63], argTypes := #[27, 27] }) (hs : a.eval (.tmp 60) = .slice a1 n1 c1) (hx : a.eval (.tmp 63) = .slice (some ⟨W6.heap.size, 0, none⟩) 1 1) => wpList_append_own_at (P := Tryz.prog) (ops := ops) (rest := rest) (o := o) (a := a) (Q := Q) _ hgd (.tmp 60) (.tmp 63) 27 ho w.heap.size 3 i0 (.int .i64 0) 1 8 Tryz.underlying27 hin hz0 hz1 hz2 rfl (by decide) (.slice a1 n1 c1) n1 E hs t3 ⟨_, 0, none⟩ 1 1 [.int .i64 ((st.length : Int) + (t.length : Int))] hx rfl t5 (by simp [Value.oneCell']) t1 t2 t4
      clear t1 t2 t3 t4 t5
      have HR2 := Lib.hid (show ∀ w8, ((((W6.setCell ⟨kb, 0, none⟩ (.int .i64 gn)).setCell ⟨kb, 1, none⟩ (.slice pn Kn.length cn))).alloc (.cells #[.int .i64 ((st.length : Int) + (t.length : Int))] 3)).grownBy w8 (Value.slice a1 n1 c1).ownBlock → w8.ownsRow w.heap.size 3 1 (.slice a2 n2 c2) n2 C ∧ w.heap.size ≤ w8.heap.size from fun w8 h => ⟨ownsRow_kept (World.ownsRow.alloc hr27 _) (Kept.of_grown (S := fun b => (Value.slice a1 n1 c1).ownBlock = some b) h fun k e => e) (fun b hb e => hne (e.trans hb.symm)), Nat.le_trans (Nat.le_trans hb7s (one_alloc _ _).size) h.size⟩)
      have t1 : n2 + 1 ≤ maxLen := by unfold maxLen; omega
      have t2 : (n2 + 1) * 8 ≤ 140737488355328 := by omega
      have HB := Lib.hid <| fun (w8 : World) (hw8 : w8.ownsRow w.heap.size 3 1 (.slice a2 n2 c2) n2 C ∧ w.heap.size ≤ w8.heap.size) (ops : Array Oper) (rest : List Oper) (o : Oper) (a : Act) (Q : Exit → Act → World → Prop) (hgd : o.guard = none) (ho : o.op = .call { callee := .builtin .append, args := #[.tmp 65, .tmp 67], argTypes := #[27, 27] }) (hs : a.eval (.tmp 65) = .slice a2 n2 c2) (hx : a.eval (.tmp 67) = .slice (some ⟨w8.heap.size, 0, none⟩) 1 1) => wpList_append_own_at (P := Tryz.prog) (ops := ops) (rest := rest) (o := o) (a := a) (Q := Q) _ hgd (.tmp 65) (.tmp 67) 27 ho w.heap.size 3 i0 (.int .i64 0) 1 8 Tryz.underlying27 hin hz0 hz1 hz2 rfl (by decide) (.slice a2 n2 c2) n2 C hs (World.ownsRow.alloc hw8.1 (.cells #[.int .i64 ((nn : Int) + (R.length : Int))] 3)) ⟨_, 0, none⟩ 1 1 [.int .i64 ((nn : Int) + (R.length : Int))] hx rfl (cells_list_new w8 [.int .i64 ((nn : Int) + (R.length : Int))] 3) (by simp [Value.oneCell']) t1 t2 (Nat.le_trans hw8.2 (one_alloc _ _).size)
      clear t1 t2
      go_wp2_with (first | (at_builtin; refine HA.out _ _ _ _ _ rfl rfl rfl rfl ?_; intro v' w8 hown' hgrow hnil hloc; have hr28 := Lib.hid (HR2.out w8 hgrow)) | (at_builtin; refine HB.out _ hr28.out _ _ _ _ _ rfl rfl rfl rfl ?_; intro v2 w9 hown2 hgrow2 hnil2 hloc2))
      have ht1 : ∀ b, (Value.slice a1 n1 c1).ownBlock = some b → tag ((W6.setCell ⟨kb, 0, none⟩ (.int .i64 gn)).setCell ⟨kb, 1, none⟩ (.slice pn Kn.length cn)) b = some (some 3) := fun b hb => tag_row hr17 hb
      have ht2 : ∀ b, (Value.slice a2 n2 c2).ownBlock = some b → tag w8 b = some (some 3) := fun b hb => tag_row hr28.out.1 hb
      have hk8 := ((Kept.alloc ((W6.setCell ⟨kb, 0, none⟩ (.int .i64 gn)).setCell ⟨kb, 1, none⟩ (.slice pn Kn.length cn)) (.cells #[.int .i64 ((st.length : Int) + (t.length : Int))] 3) (fun _ => False)).weaken (T := fun b => (Value.slice a1 n1 c1).ownBlock = some b) (fun _ e => e.elim)).trans (Kept.of_grown hgrow fun k e => e)
      have hk9 := ((Kept.alloc w8 (.cells #[.int .i64 ((nn : Int) + (R.length : Int))] 3) (fun _ => False)).weaken (T := fun b => (Value.slice a2 n2 c2).ownBlock = some b) (fun _ e => e.elim)).trans (Kept.of_grown hgrow2 fun k e => e)
      have hkb8 := hkb7.keptK hk8 (fun e => by have := ht1 kb e; rw [tag_blk hkb7] at this; simp at this)
      have hkb9 := hkb8.keptK hk9 (fun e => by have := ht2 kb e; rw [tag_blk hkb8] at this; simp at this)
      have hkn9 := (hkn7.kept hk8 (fun b ht e => by rw [ht1 b e] at ht; simp at ht)).kept hk9 (fun b ht e => by rw [ht2 b e] at ht; simp at ht)
      have hbw9 := (hbw7.trans (Kept.below hk8 hb7s (fun j hj => (hr17.lt j hj).1))).trans (Kept.below hk9 hr28.out.2 (fun j hj => (hr28.out.1.lt j hj).1))
      have hl2 : ∀ b, (Value.slice a2 n2 c2).ownBlock = some b → b < ((W6.setCell ⟨kb, 0, none⟩ (.int .i64 gn)).setCell ⟨kb, 1, none⟩ (.slice pn Kn.length cn)).heap.size := fun b hb => (hr27.lt b hb).2
      have hnv : ∀ b, v'.ownBlock = some b → (Value.slice a2 n2 c2).ownBlock ≠ some b := fun b hb e => by
        rcases hloc with h | h
        · exact hne ((h.symm.trans hb).trans e.symm)
        · have h1 := hl2 b e
          rw [h] at hb
          have h2 := Option.some.inj hb
          rw [World.size_alloc] at h2
          omega
      have hnv2 : v'.ownBlock ≠ v2.ownBlock := fun e => by
        rcases hloc2 with h | h
        · cases hb : v'.ownBlock with
          | none =>
            rcases hloc with h2 | h2
            · exact hne (h2.symm.trans (e.trans h))
            · rw [hb] at h2; cases h2
          | some b => exact hnv b hb ((h.symm.trans e.symm).trans hb)
        · have h1 := (hown'.lt _ (e.trans h)).2
          rw [World.size_alloc] at h1
          omega
      refine ⟨⟨i + 1, st ++ t, ep, n1 + 1, n2 + 1, _, _, nn + R.length, gn, _, Kn, by omega, rfl, rfl, by go_num, by go_num, by omega, by rw [List.length_append]; omega, by omega, by omega, ownsRow_kept hown' hk9 (fun b hb e => hnv b hb e), hown2, hnv2, hkb9, hkn9, ?_, ?_, fun e => ?_, hbw9⟩, ?_⟩
      · exact hgn.imp (fun h => h.1 ▸ hgw) (fun h => h.1) |>.elim id .inr
      · rcases hgn with ⟨_, h⟩ | ⟨_, h⟩
        · rw [h]; omega
        · rw [h]; exact Nat.zero_le _
      · rcases HSh.out with ⟨_, _, h⟩ | ⟨K', h1, _⟩
        · exact absurd e h
        · obtain ⟨hk, _, _, _⟩ := HSo.out K' h1
          have hgg : gw = g := hgw.resolve_right fun e0 => by rw [e0] at hk; cases hk
          have hKK := hKP hgg
          have hw2 : walPut g KP R = (t, ok, ep) := by rw [← hgg, ← hKK]; exact hwp
          have hs := HS.out K' (by rw [hw2]; exact h1)
          rw [hw2] at hs
          refine ⟨hkg, sP ++ t, K', by rw [← HTk.out]; exact hs, by rw [HStP.out, List.append_assoc], fun e2 => ?_, ?_, ?_, ?_⟩
          · rcases hgn with ⟨_, h⟩ | ⟨h, _⟩
            · rw [h]; exact HKy.out K' h1
            · rw [← e2, h] at hkg; cases hkg
          · have hea : endAt g LL (i + 1) = 10 + (sP ++ t).length := by
              rw [HTk.out] at hs
              unfold endAt
              rw [hs]
            have hel : (st.length : Int) + (t.length : Int) = ((endAt g LL (i + 1) : Nat) : Int) := by
              rw [hea, HStP.out, List.length_append, List.length_append, headB_ten]
              omega
            rw [endsL_succ, HEE.out, hel]
          · have hcl : (nn : Int) + (R.length : Int) = (((LL.take (i + 1)).flatten.length : Nat) : Int) := by
              rw [← HTk.out, HNN.out]
              simp
            rw [cntsL_succ, HCC.out, hcl]
          · rw [← HTk.out, HNN.out]
            simp
      · simp [intOf]; omega
    · have hz : (er == 0) = false := by simpa using her
      go_wp2_with fail
      ((try simp only [Exit.inBlock, Exit.then]); refine bodyPost_ret (results_tmp4 rfl _ _ _) rfl ?_)
      exact ⟨⟨st, a1, c1, n1, a2, c2, n2, false, rfl, fun e => by cases e⟩, hwb ▸ hbw⟩
  · obtain rfl : i = LL.length := by omega
    rw [List.take_length] at HG
    have hF : (er == 0) = true → knownB g = true ∧ ∃ s K, segB g [] LL = some (s, K) ∧ st = headB magicB g.toNat 0 ++ s ∧ ValsAt wr (.slice a1 n1 c1) (endsL g LL LL.length) ∧ ValsAt wr (.slice a2 n2 c2) (cntsL LL LL.length) := fun e => by
      obtain ⟨h1, s, K, h2, h3, _, h4, h5, _⟩ := HG.out (by simpa using e)
      subst h4
      subst h5
      have hl1 := (show (endsL g LL LL.length).length = n1 by simpa using hr1.1)
      have hl2 := (show (cntsL LL LL.length).length = n2 by simpa using hr2.1)
      exact ⟨h1, s, K, h2, h3, vals_of_own hr1 hl1, vals_of_own hr2 hl2⟩
    have HF := Lib.hid hF
    clear hF HG
    go_wp2_with fail
    ((try simp only [Exit.inBlock, Exit.then]); refine bodyPost_ret (results_tmp4 rfl _ _ _) rfl ?_)
    exact ⟨⟨st, a1, c1, n1, a2, c2, n2, _, rfl, HF.out⟩, hwb ▸ hbw⟩
end Go.Proofs.YtipdeiiipdnacaaGreat
namespace Go.Proofs.YtipdeiiipdnacaaGreat

theorem readLoop_nil (g : Int) (q : Nat) (K : List (List UInt8)) : readLoop g q K [] = some ([], K, [], false) := by
  cases q <;> simp [readLoop]
theorem seg_one (g : Int) (R : List Rc) (s : List UInt8) (K : List (List UInt8)) (hk : knownB g = true) (h : segB g [] [R] = some (s, K)) (hok : ∀ x ∈ R, x.ok) (hR : R.length ≤ 20000) :
    walRead (headB magicB g.toNat 0 ++ s) = (some ⟨g, 0, R, K, ((headB magicB g.toNat 0 ++ s).length : Int) - (0 : Nat), false⟩, 0) := by
  unfold segB at h
  cases ho : (walPut g [] R).2.1 with
  | none => rw [ho] at h; cases h
  | some K1 =>
    rw [ho] at h
    simp only [segB, Option.map_some, List.append_nil] at h
    obtain ⟨rfl, rfl⟩ := Prod.mk.inj (Option.some.inj h)
    obtain ⟨_, hp, hv, _⟩ := walPut_some g [] R (walPut g [] R).1 K1 (walPut g [] R).2.2 (by rw [← ho])
    have h1 := readLoop_put g hk R [] _ K1 [] (walPut g [] R).1.length hp (fun x hx => ⟨hv x hx, hok x hx⟩) (by simp; omega) hR (by simp)
    rw [List.append_nil, readLoop_nil] at h1
    have h2 := walRead_head g hk (walPut g [] R).1 R K1 [] false (by rw [h1]; simp [behindR])
    exact h2
end Go.Proofs.YtipdeiiipdnacaaGreat
namespace Go.Proofs.YtipdeiiipdnacaaGreat
open Go.RowKit Go.Maps Go.WideMaps Go.ChangeShapes Go.WideShapes Go.Deep
attribute [local go_sem] bs_toList bs_size

theorem rows_one {w : World} {rv : Value} {R : List Rc} {t : TypeId} (h : RecsAt w rv R) (hR : R.length ≤ 100) : RowsAt (w.alloc (.cells #[rv] t)) (.slice (some ⟨w.heap.size, 0, none⟩) 1 1) [R] := by
  have b1 := one_alloc w (.cells #[rv] t)
  refine ⟨_, 1, rfl, by simp, fun i R' hi => ?_⟩
  cases i with
  | succ i => simp at hi
  | zero =>
    obtain rfl : R = R' := by simpa using hi
    refine ⟨w.heap.size, 0, rv, rfl, ?_, h.below b1, hR⟩
    exact Blk.cell (Blk.new w t #[rv]) 0
theorem recs_ok {w : World} {v : Value} {R : List Rc} (h : RecsAt w v R) : ∀ x ∈ R, x.ok := by
  obtain ⟨_, _, _, _, h⟩ := h
  intro x hx
  obtain ⟨i, hi⟩ := List.mem_iff_getElem?.mp hx
  obtain ⟨_, _, _, h2⟩ := h i x hi
  exact h2.1
theorem seg_one_len (g : Int) (R : List Rc) (s : List UInt8) (K : List (List UInt8)) (h : segB g [] [R] = some (s, K)) : s.length ≤ (R.length + 1) * 20100 ∧ (g = 1 → s.length = R.length * 186) := by
  unfold segB at h
  cases ho : (walPut g [] R).2.1 with
  | none => rw [ho] at h; cases h
  | some K1 =>
    rw [ho] at h
    simp only [segB, Option.map_some, List.append_nil] at h
    obtain ⟨rfl, rfl⟩ := Prod.mk.inj (Option.some.inj h)
    refine ⟨walPut_bd g [] R, fun e => ?_⟩
    subst e
    obtain ⟨_, hp, hv, _⟩ := walPut_some 1 [] R (walPut 1 [] R).1 K1 (walPut 1 [] R).2.2 (by rw [← ho])
    unfold putBy at hp
    rw [if_pos rfl] at hp
    obtain ⟨h1, _⟩ := Prod.mk.inj hp
    rw [← Option.some.inj h1]
    exact fixPut_bd R fun x hx => (right_fits x (valid_right x 1 (hv x hx))).1.2
theorem readIs_some {s : List UInt8} {e : Ending} {w : World} {x : Sg} (h : ReadIs s e w) (hx : walRead s = (some x, 0)) : ∃ a1 c1 a2 c2, e = .returned (.tuple #[.agg #[.int .i64 x.flags, .slice a1 x.recs.length c1, .int .i64 x.used, .bool x.torn, .int .i64 x.gen, .slice a2 x.keys.length c2], .int .i64 0]) ∧ RecsAt w (.slice a1 x.recs.length c1) x.recs ∧ KeysAt w (.slice a2 x.keys.length c2) x.keys := by
  unfold ReadIs at h
  rw [hx] at h
  obtain ⟨rv, kv, he, hr, hk⟩ := h
  obtain ⟨a1, c1, rfl, _⟩ := id hr
  obtain ⟨a2, c2, rfl, _⟩ := id hk
  exact ⟨a1, c1, a2, c2, he, hr, hk⟩

set_option maxRecDepth 100000 in
set_option maxHeartbeats 4000000 in
theorem WalGens_walk {H : Type} {enc : TypeId × Value → H} {d1 : DataW H} {p1 : List MemPlace} (sa1 : Option Addr) (sl1 sc1 : Nat) (a b : Int) (W : World)
    (h1 : DataW.Trod enc Tryz.prog W 0 (fun _ => true) true 25 (.slice sa1 sl1 sc1) d1 p1)
    (g1 : -9223372036854775808 ≤ a) (g2 : a ≤ 9223372036854775807) (g3 : -9223372036854775808 ≤ b) (g4 : b ≤ 9223372036854775807) :
    Calls Tryz.prog 5 #[.slice sa1 sl1 sc1, .int .i64 a, .int .i64 b] W fun e w' => e = .returned (.bool true) ∧ Below W.heap.size W w' := by
  obtain ⟨_, h1⟩ := h1
  obtain ⟨R, hR⟩ := recs_of_trod h1
  clear h1
  have q0 := Lib.hid (works_any W)
  go_enter Tryz.func5, Tryz.ntmps5
  go_wp2_with fail
  refine q0.out.mono ?_
  rintro e W1 ⟨rfl, b1⟩
  have hR1 := hR.below b1
  have q1 := Lib.hid (FewRecs_any hR1)
  clear q0 hR
  go_wp2_with fail
  refine q1.out.mono ?_
  rintro e W2 ⟨f1, rfl, b2, hf1⟩
  have HF1 := Lib.hid hf1
  have B2 := b1.trans (b2.mono b1.size)
  clear hf1 q1
  cases f1 with
  | false =>
    go_wp2
    go_ret
    exact ⟨rfl, B2⟩
  | true =>
    have hR2 := (hR1.below b2).at (HF1.out rfl)
    have hR40 := (HF1.out rfl).1
    obtain ⟨_, _, e1, _⟩ := id hR2
    obtain ⟨rfl, rfl, rfl⟩ := Value.slice.inj e1
    clear e1 hR1 HF1 b1 b2
    have b3 := one_alloc W2 (.cells #[.slice sa1 R.length sc1] 25)
    have r3 := rows_one (t := 25) hR2 (by omega)
    have q2 := Lib.hid (segment_any a _ _ _ r3 g1 g2)
    have hR3 := hR2.below b3
    have B3 := B2.trans (b3.mono B2.size)
    clear r3 hR2 B2 b3
    go_wp2_with fail
    refine q2.out.mono ?_
    rintro e W4 ⟨⟨st, a1, c1, n1, a2, c2, n2, p, rfl, hS⟩, b4⟩
    have HS := Lib.hid hS
    have hR4 := hR3.below b4
    have B4 := B3.trans (b4.mono B3.size)
    clear hS q2 hR3 B3 b4
    have b5 := one_alloc W4 (.cells #[.slice sa1 R.length sc1] 25)
    have r5 := rows_one (t := 25) hR4 (by omega)
    have q3 := Lib.hid (segment_any b _ _ _ r5 g3 g4)
    have hR5 := hR4.below b5
    have B5 := B4.trans (b5.mono B4.size)
    clear r5 hR4 B4 b5
    go_wp2_with fail
    refine q3.out.mono ?_
    rintro e W6 ⟨⟨tt, a3, c3, n3, a4, c4, n4, q, rfl, hT⟩, b6⟩
    have HT := Lib.hid hT
    have hR6 := hR5.below b6
    have B6 := B5.trans (b6.mono B5.size)
    clear hT q3 hR5 B5 b6
    cases p with
    | false =>
      go_wp2
      go_ret
      exact ⟨rfl, B6⟩
    | true =>
      cases q with
      | false =>
        go_wp2
        go_ret
        exact ⟨rfl, B6⟩
      | true =>
        obtain ⟨ka, s, K, hs, hst, _⟩ := HS.out rfl
        obtain ⟨kb, s2, K2, hs2, hst2, _⟩ := HT.out rfl
        have hok := recs_ok hR6
        have x1 := seg_one a R s K ka hs hok (by omega)
        have x2 := seg_one b R s2 K2 kb hs2 hok (by omega)
        have y1 := seg_one_len a R s K hs
        have y2 := seg_one_len b R s2 K2 hs2
        have z1 := headB_ten a
        have z2 := headB_ten b
        rw [← hst, show ((st.length : Int) - (0 : Nat)) = (st.length : Int) by omega] at x1
        rw [← hst2, show ((tt.length : Int) - (0 : Nat)) = (tt.length : Int) by omega] at x2
        have l1 : st.length = 10 + s.length := by rw [hst, List.length_append, z1]
        have l2 : tt.length = 10 + s2.length := by rw [hst2, List.length_append, z2]
        have m1 : st.length ≤ 1000000 := by omega
        have m2 : tt.length ≤ 1000000 := by omega
        have HL := Lib.hid (show a = 1 → st.length = 10 + R.length * 186 from fun e => by have := y1.2 e; omega)
        have X1 := Lib.hid x1
        have X2 := Lib.hid x2
        clear x1 x2 y1 y2 z1 z2 hst hst2 hs hs2 HS HT l1 l2
        have q4 := Lib.hid (Read_any st W6 m1)
        go_wp2_with fail
        refine q4.out.mono ?_
        rintro e W7 ⟨hI, b7⟩
        obtain ⟨u1, v1, u2, v2, rfl, hr7, _⟩ := readIs_some hI X1.out
        clear hI q4 X1
        have kx := Blk.new W7 34 #[.int .i64 0, .slice u1 R.length v1, .int .i64 (st.length : Int), .bool false, .int .i64 a, .slice u2 K.length v2]
        have b8 := one_alloc W7 (.cells #[.int .i64 0, .slice u1 R.length v1, .int .i64 (st.length : Int), .bool false, .int .i64 a, .slice u2 K.length v2] 34)
        have hr8 := hr7.below b8
        have B8 := (B6.trans (b7.mono B6.size)).trans (b8.mono (Nat.le_trans B6.size b7.size))
        clear hr7 b7 b8 B6
        simp only
        have q5 := Lib.hid (fun W => Read_any tt W m2)
        go_wp2_with fail
        refine (q5.out _).mono ?_
        rintro e W9 ⟨hI, b9⟩
        obtain ⟨u3, v3, u4, v4, rfl, hr9, _⟩ := readIs_some hI X2.out
        clear hI q5 X2
        have kx9 := Blk.below kx b9 kx.lt
        have hr89 := hr8.below b9
        have ky := Blk.new W9 34 #[.int .i64 0, .slice u3 R.length v3, .int .i64 (tt.length : Int), .bool false, .int .i64 b, .slice u4 K2.length v4]
        have b10 := one_alloc W9 (.cells #[.int .i64 0, .slice u3 R.length v3, .int .i64 (tt.length : Int), .bool false, .int .i64 b, .slice u4 K2.length v4] 34)
        have kx10 := Blk.below kx9 b10 kx9.lt
        have hrx := hr89.below b10
        have hry := hr9.below b10
        have B10 := (B8.trans (b9.mono B8.size)).trans (b10.mono (Nat.le_trans B8.size b9.size))
        have cx1 := (kx10.cell 1).trans (show _ = some (Value.slice u1 R.length v1) from rfl)
        have cy1 := (ky.cell 1).trans (show _ = some (Value.slice u3 R.length v3) from rfl)
        clear kx kx9 kx10 ky hr8 hr89 hr9 b9 b10 B8
        have q6 := Lib.hid (SameRecs_any hrx hry)
        by_cases ha : a = 1
        · subst ha
          have hlen := HL.out rfl
          have hz : ((st.length : Int) == 10 + 186 * (R.length : Int)) = true := by simp; omega
          clear hlen
          go_wp2_with fail
          refine q6.out.mono ?_
          rintro e W11 ⟨rfl, b11⟩
          have B11 := B10.trans (b11.mono B10.size)
          go_wp2
          go_ret
          exact ⟨rfl, B11⟩
        · have hz : (a != 1) = true := by simpa using ha
          go_wp2_with fail
          refine q6.out.mono ?_
          rintro e W11 ⟨rfl, b11⟩
          have B11 := B10.trans (b11.mono B10.size)
          go_wp2
          go_ret
          exact ⟨rfl, B11⟩
end Go.Proofs.YtipdeiiipdnacaaGreat
