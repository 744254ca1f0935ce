/- Changes are put: which coder; what is right is short. Changes are put. What a segment tells, in plain words; and what get of any generation answers. What a segment tells: the walk. -/
import Derived.Test.YtipdeiiipdnacaaGreatGD
import Derived.Laws.AppendOwnNone
namespace Go.Proofs.YtipdeiiipdnacaaGreat
open Go.RowKit Go.Maps Go.WideMaps
attribute [local go_sem] bs_toList bs_size

/-- A generation's coder, behind keys. -/
def coderV (g : Int) (n : Nat) : Value := if g = 1 then .iface 78 (.agg #[]) else if g = 2 then .iface 80 (.agg #[.pointer (some ⟨n, 0, none⟩)]) else .iface 82 (.agg #[.pointer (some ⟨n, 0, none⟩)])
set_option maxRecDepth 100000 in
set_option maxHeartbeats 1000000 in
theorem coderOf_any (g : Int) (n : Nat) (w : World) : Calls Tryz.prog 20 #[.int .i64 g, .pointer (some ⟨n, 0, none⟩)] w fun e w' => e = .returned (coderV g n) ∧ w = w' := by
  by_cases h1 : g = 1
  · subst h1
    go_enter Tryz.func20, Tryz.ntmps20
    go_wp2
    go_ret
    exact ⟨rfl, rfl⟩
  by_cases h2 : g = 2
  · subst h2
    go_enter Tryz.func20, Tryz.ntmps20
    go_wp2
    go_ret
    exact ⟨rfl, rfl⟩
  have hv : coderV g n = .iface 82 (.agg #[.pointer (some ⟨n, 0, none⟩)]) := by unfold coderV; rw [if_neg h1, if_neg h2]
  rw [hv]
  have e1 : (g == 1) = false := by simpa using h1
  have e2 : (g == 2) = false := by simpa using h2
  clear h1 h2 hv
  go_enter Tryz.func20, Tryz.ntmps20
  go_wp2
  go_ret
  exact ⟨rfl, rfl⟩

theorem chkFrom_short : ∀ (l : List Lb) (last : List UInt8), chkFrom last l = true → ∀ y ∈ l, y.1.length ≤ 48 ∧ y.2.length ≤ 48
  | [], _, _, y, hy => by cases hy
  | x :: l, last, h, y, hy => by
    unfold chkFrom at h
    simp only [Bool.and_eq_true] at h
    obtain ⟨_, h2, _, h4, h5⟩ := h
    rcases List.mem_cons.1 hy with rfl | hy
    · unfold allB at h2 h4
      simp only [Bool.and_eq_true, decide_eq_true_eq] at h2 h4
      exact ⟨h2.2.2, h4.2.2⟩
    · exact chkFrom_short l _ h5 y hy
theorem checkE_short (L : List Lb) (h : checkE L = 0) : L.length ≤ 6 ∧ ∀ y ∈ L, y.1.length ≤ 48 ∧ y.2.length ≤ 48 := by
  unfold checkE at h
  split at h
  · rename_i hc
    simp only [Bool.and_eq_true, decide_eq_true_eq] at hc
    exact ⟨hc.2.2, chkFrom_short L _ hc.1⟩
  · cases h
theorem keyB_short : ∀ (L : List Lb), (∀ y ∈ L, y.1.length ≤ 48 ∧ y.2.length ≤ 48) → (keyB L).length ≤ L.length * 116
  | [], _ => by simp [keyB]
  | x :: L, h => by
    have ih := keyB_short L fun y hy => h y (List.mem_cons_of_mem _ hy)
    have hx := h x List.mem_cons_self
    have e : keyB (x :: L) = Num.text x.1 ++ Num.text x.2 ++ keyB L := by unfold keyB; rw [List.flatMap_cons]
    have s1 := Num.small_len x.1.length
    have s2 := Num.small_len x.2.length
    rw [e, List.length_append, List.length_append, Num.text_len, Num.text_len, List.length_cons]
    omega
theorem right_fits (x : Rc) (h : rightB x = true) : fits1 x ∧ fits2 x ∧ fits3 x := by
  unfold rightB at h
  unfold fits1 fits2 fits3
  have hc : ∀ {b : Bool}, (decide (checkE x.labels = 0) && b) = true → x.labels.length ≤ 6 ∧ (keyB x.labels).length ≤ 696 := fun hb => by
    simp only [Bool.and_eq_true, decide_eq_true_eq] at hb
    obtain ⟨h1, h2⟩ := checkE_short _ hb.1
    have := keyB_short _ h2
    exact ⟨h1, by omega⟩
  by_cases k0 : x.kind = 0
  · rw [if_pos k0] at h
    obtain ⟨h1, h2⟩ := hc h
    unfold timelyB at h
    simp only [Bool.and_eq_true, decide_eq_true_eq] at h
    exact ⟨⟨by omega, h1⟩, ⟨.inl k0, by omega⟩, .inl k0, by omega, fun _ => ⟨h.2.1.1, h.2.1.2⟩⟩
  · rw [if_neg k0] at h
    by_cases k1 : x.kind = 1
    · rw [if_pos k1] at h
      obtain ⟨h1, h2⟩ := hc h
      exact ⟨⟨by omega, h1⟩, ⟨.inr (.inl k1), by omega⟩, .inr (.inl k1), by omega, fun e => absurd e k0⟩
    · rw [if_neg k1] at h
      by_cases k2 : x.kind = 2
      · rw [if_pos k2] at h
        simp only [Bool.and_eq_true, decide_eq_true_eq] at h
        have hl : x.labels = [] := List.length_eq_zero_iff.1 h.1
        rw [hl]
        exact ⟨⟨by omega, by simp⟩, ⟨.inr (.inr k2), by simp [keyB]⟩, .inr (.inr k2), by simp [keyB], fun e => absurd e k0⟩
      · rw [if_neg k2] at h
        cases h
theorem valid_right (x : Rc) (g : Int) (h : validE x g = 0) : rightB x = true := by
  unfold validE at h
  split at h
  · cases h
  · rename_i hr
    simpa using hr
end Go.Proofs.YtipdeiiipdnacaaGreat
namespace Go.Proofs.YtipdeiiipdnacaaGreat
open Go.RowKit Go.Maps Go.WideMaps
attribute [local go_sem] bs_toList bs_size

theorem namesPut_new (K : List (List UInt8)) (L : List Lb) : ∀ k ∈ (namesPut K L).2, k ∈ K ∨ k = keyB L := fun k hk => by
  unfold namesPut at hk
  split at hk
  · exact .inl hk
  · rcases List.mem_append.1 hk with h | h
    · exact .inl h
    · exact .inr (List.mem_singleton.1 h)
theorem smallOne_new (K : List (List UInt8)) (x : Rc) : ∀ k ∈ (smallOne K x).2, k ∈ K ∨ k = keyB x.labels := fun k hk => by
  unfold smallOne at hk
  split at hk
  · exact namesPut_new K _ k hk
  · split at hk
    · exact namesPut_new K _ k hk
    · exact .inl hk
theorem smallPut_keys : ∀ (R : List Rc) (K : List (List UInt8)), (∀ x ∈ R, (keyB x.labels).length ≤ 2000) → (smallPut K R).2.length ≤ K.length + R.length ∧ ∀ k ∈ (smallPut K R).2, k ∈ K ∨ k.length ≤ 2000
  | [], K, _ => ⟨by simp [smallPut], fun k hk => .inl hk⟩
  | x :: R, K, h => by
    have h1 := smallOne_keys K x
    have h2 := smallOne_new K x
    have hx := h x List.mem_cons_self
    have h3 : ∀ k ∈ (smallOne K x).2, k ∈ K ∨ k.length ≤ 2000 := fun k hk => (h2 k hk).imp id fun e => by rw [e]; exact hx
    unfold smallPut
    split
    · exact ⟨by simp; omega, h3⟩
    · have ih := smallPut_keys R (smallOne K x).2 fun y hy => h y (List.mem_cons_of_mem _ hy)
      refine ⟨by simp; omega, fun k hk => ?_⟩
      exact (ih.2 k hk).elim (h3 k) .inr
theorem batOne_keys (K : List (List UInt8)) (lt : Int) (lv : Nat) (x : Rc) (hx : (keyB x.labels).length ≤ 2000) : (batOne K lt lv x).2.1.length ≤ K.length + 1 ∧ ∀ k ∈ (batOne K lt lv x).2.1, k ∈ K ∨ k.length ≤ 2000 := by
  unfold batOne
  split
  · exact ⟨namesPut_keys K _, fun k hk => (namesPut_new K _ k hk).imp id fun e => by rw [e]; exact hx⟩
  · exact ⟨smallOne_keys K x, fun k hk => (smallOne_new K x k hk).imp id fun e => by rw [e]; exact hx⟩
theorem batLoop_keys : ∀ (R : List Rc) (K : List (List UInt8)) (lt : Int) (lv : Nat), (∀ x ∈ R, (keyB x.labels).length ≤ 2000) → (batLoop K lt lv R).2.length ≤ K.length + R.length ∧ ∀ k ∈ (batLoop K lt lv R).2, k ∈ K ∨ k.length ≤ 2000
  | [], K, _, _, _ => ⟨by simp [batLoop], fun k hk => .inl hk⟩
  | x :: R, K, lt, lv, h => by
    have h1 := batOne_keys K lt lv x (h x List.mem_cons_self)
    have ih := batLoop_keys R (batOne K lt lv x).2.1 (batOne K lt lv x).2.2.1 (batOne K lt lv x).2.2.2 fun y hy => h y (List.mem_cons_of_mem _ hy)
    unfold batLoop
    refine ⟨by simp only [List.length_cons]; have := ih.1; omega, fun k hk => ?_⟩
    exact (ih.2 k hk).elim (h1.2 k) .inr

/-- The first error of changes. -/
def firstE (g : Int) : List Rc → Int
  | [] => 0
  | x :: R => if validE x g = 0 then firstE g R else validE x g
/-- Changes as a generation puts them. -/
def putBy (g : Int) (K : List (List UInt8)) (R : List Rc) : Option (List UInt8) × List (List UInt8) :=
  if g = 1 then (some (fixPut R), K) else if g = 2 then smallPut K R else (if (batPut K R).1.2 then some (batPut K R).1.1 else none, (batPut K R).2)
/-- Changes as bytes, and the keys then; or an error. -/
def walPut (g : Int) (K : List (List UInt8)) (R : List Rc) : List UInt8 × Option (List (List UInt8)) × Int :=
  if knownB g = false then ([], none, 1) else if firstE g R ≠ 0 then ([], none, firstE g R)
  else match putBy g K R with
    | (none, _) => ([], none, 7)
    | (some s, K') => (s, some K', 0)
theorem putBy_keys (g : Int) (K : List (List UInt8)) (R : List Rc) (h : ∀ x ∈ R, (keyB x.labels).length ≤ 2000) : (putBy g K R).2.length ≤ K.length + R.length ∧ ∀ k ∈ (putBy g K R).2, k ∈ K ∨ k.length ≤ 2000 := by
  unfold putBy
  split
  · exact ⟨by simp, fun k hk => .inl hk⟩
  · split
    · exact smallPut_keys R K h
    · unfold batPut
      split
      · exact ⟨by simp, fun k hk => .inl hk⟩
      · exact batLoop_keys R K 0 0 h
theorem firstE_zero : ∀ (g : Int) (R : List Rc), firstE g R = 0 → ∀ x ∈ R, validE x g = 0
  | _, [], _, x, hx => by cases hx
  | g, y :: R, h, x, hx => by
    unfold firstE at h
    by_cases hv : validE y g = 0
    · rw [if_pos hv] at h
      rcases List.mem_cons.1 hx with rfl | hx
      · exact hv
      · exact firstE_zero g R h x hx
    · rw [if_neg hv] at h
      exact absurd h hv

theorem set2 {W : World} {b : Nat} {T : TypeId} {u0 u1 : Value} (h : Blk W b T #[u0, u1]) (v0 v1 : Value) :
    Blk ((W.setCell ⟨b, 0, none⟩ v0).setCell ⟨b, 1, none⟩ v1) b T #[v0, v1] ∧ Kept W ((W.setCell ⟨b, 0, none⟩ v0).setCell ⟨b, 1, none⟩ v1) (fun k => k = b) :=
  ⟨Blk.set_ (Blk.set_ h 0 v0) 1 v1, Kept.of_grown (grown_trans' (grown_set _ _ _ _) (grown_set _ _ _ _)) fun _ e => (Option.some.inj e).symm⟩
/-- What a coder's put answers. -/
def CPut (w : World) (B n m : Nat) (kv : Value) (r : Option (List UInt8) × List (List UInt8)) (e : Ending) (w' : World) : Prop :=
  ∃ s5, e = .returned (.tuple #[.string s5, .bool r.1.isSome]) ∧ (∀ s, r.1 = some s → s5 = bs s) ∧ ∃ kv' D', (r.1 ≠ none → NamesIs w' B n r.2 kv' m D') ∧ Turn w w' (NF n m kv) (NF n m kv')
section
variable {w wA : World} {B n m : Nat} {K : List (List UInt8)} {kv v : Value} {D : DataW Unit} {R : List Rc}
theorem cput1 (hA : Below wA.heap.size wA w) (h : NamesIs w B n K kv m D) (hR : RecsAt wA v R) (hf : ∀ x ∈ R, fits1 x) :
    Calls Tryz.prog 73 #[.agg #[], v] w (CPut w B n m kv (putBy 1 K R)) := by
  refine (fixed_put_any R v w (hR.below hA) hf).mono ?_
  rintro e w' ⟨rfl, hb⟩
  exact ⟨_, rfl, fun s e => by cases e; rfl, kv, D, fun _ => h.below hb, Turn.of_below hb⟩
theorem cput2 (hA : Below wA.heap.size wA w) (hAB : wA.heap.size ≤ B) (h : NamesIs w B n K kv m D) (hR : RecsAt wA v R) (hf : ∀ x ∈ R, fits2 x) (hK : K.length + R.length ≤ 1048576) (hB : B ≤ w.heap.size) :
    Calls Tryz.prog 115 #[.agg #[.pointer (some ⟨n, 0, none⟩)], v] w (CPut w B n m kv (putBy 2 K R)) := by
  refine (small_put_any R v wA hA hAB h hR hf hK hB).mono ?_
  rintro e w' ⟨rfl, kv', D', h1, h2⟩
  have hp : putBy 2 K R = smallPut K R := rfl
  rw [hp]
  cases hs : (smallPut K R).1 with
  | none => exact ⟨⟨#[]⟩, (by rw [hs]; rfl), (fun s (e : (smallPut K R).1 = some s) => by rw [hs] at e; cases e), kv', D', h1, h2⟩
  | some s0 => exact ⟨bs s0, (by rw [hs]; rfl), (fun s (e : (smallPut K R).1 = some s) => by rw [hs] at e; cases e; rfl), kv', D', h1, h2⟩
theorem cput3 (hA : Below wA.heap.size wA w) (hAB : wA.heap.size ≤ B) (h : NamesIs w B n K kv m D) (hR : RecsAt wA v R) (hf : ∀ x ∈ R, fits3 x) (hR1 : R.length ≤ 100) (hK : K.length ≤ 1000000) (hB : B ≤ w.heap.size) :
    Calls Tryz.prog 126 #[.agg #[.pointer (some ⟨n, 0, none⟩)], v] w (CPut w B n m kv (putBy 3 K R)) := by
  refine (batched_put_any R v wA hA hAB h hR hf hR1 hK hB).mono ?_
  rintro e w' ⟨rfl, kv', D', h1, h2⟩
  have hp : putBy 3 K R = (if (batPut K R).1.2 then some (batPut K R).1.1 else none, (batPut K R).2) := rfl
  rw [hp]
  cases hs : (batPut K R).1.2 with
  | false => exact ⟨_, rfl, fun s e => by simp at e, kv', D', fun _ => h1, h2⟩
  | true => exact ⟨_, rfl, fun s e => by simp at e; rw [e], kv', D', fun _ => h1, h2⟩
end
def PutIs (w : World) (g : Int) (kv : Value) (K : List (List UInt8)) (R : List Rc) (e : Ending) (w' : World) : Prop :=
  Below w.heap.size w w' ∧ match (walPut g K R).2.1 with
    | none => e = .returned (.tuple #[.string ⟨#[]⟩, writerV g kv, .int .i64 (walPut g K R).2.2])
    | some K' => ∃ kv', e = .returned (.tuple #[.string (bs (walPut g K R).1), writerV g kv', .int .i64 0]) ∧ KeysAt w' kv' K' ∧ ∀ b, kv'.ownBlock = some b → tag w' b = some (some 9)

set_option maxRecDepth 100000 in
set_option maxHeartbeats 8000000 in
theorem Put_any (g : Int) (kv v : Value) (K : List (List UInt8)) (R : List Rc) (w : World) (hKA : KeysAt w kv K) (hR : RecsAt w v R) (hK : K.length ≤ 1000000) (hR1 : R.length ≤ 100) (g1 : -9223372036854775808 ≤ g) (g2 : g ≤ 9223372036854775807) :
    Calls Tryz.prog 13 #[writerV g kv, v] w (PutIs w g kv K R) := by
  obtain ⟨ka, kcap, rfl, _⟩ := id hKA
  have hb0 : Below w.heap.size w ((w.alloc (.cells #[.int .i64 g, .slice ka K.length kcap] 32)).alloc (.cells #[.int .i64 0, .slice none 0 0] 32)) := ((Below.refl _ w).alloc (Nat.le_refl _) _).alloc (by simp) _
  have hw0 : Blk ((w.alloc (.cells #[.int .i64 g, .slice ka K.length kcap] 32)).alloc (.cells #[.int .i64 0, .slice none 0 0] 32)) w.heap.size 32 #[.int .i64 g, .slice ka K.length kcap] := (Blk.new w _ _).alloc _
  have hr0 : Blk ((w.alloc (.cells #[.int .i64 g, .slice ka K.length kcap] 32)).alloc (.cells #[.int .i64 0, .slice none 0 0] 32)) (w.heap.size + 1) 32 #[.int .i64 0, .slice none 0 0] := by
    have := Blk.new (w.alloc (.cells #[.int .i64 g, .slice ka K.length kcap] 32)) 32 #[.int .i64 0, .slice none 0 0]
    rwa [World.size_alloc] at this
  rw [show writerV g (.slice ka K.length kcap) = .agg #[.int .i64 g, .slice ka K.length kcap] from rfl]
  generalize hW0 : (w.alloc (.cells #[.int .i64 g, .slice ka K.length kcap] 32)).alloc (.cells #[.int .i64 0, .slice none 0 0] 32) = W0 at *
  have q1 := Lib.hid (fun W => known_any g W)
  have HE := Lib.hid (show ∀ (W W' : World) (e : Int), (walPut g K R).2 = (none, e) → Below w.heap.size w W → Kept W W' (fun k => k = w.heap.size + 1) → PutIs w g (.slice ka K.length kcap) K R (.returned (.tuple #[.string ⟨#[]⟩, .agg #[.int .i64 g, .slice ka K.length kcap], .int .i64 e])) W' from fun W W' e he hb hk => by
    unfold PutIs
    rw [he]
    exact ⟨hb.trans (Kept.below hk hb.size (fun k hk => by omega)), rfl⟩)
  cases hkn : knownB g with
  | false =>
    have HP := Lib.hid (show (walPut g K R).2 = (none, 1) by unfold walPut; rw [if_pos hkn])
    rw [hkn] at q1
    obtain ⟨⟨c0, c1⟩, _⟩ := cells2 hw0
    go_enter Tryz.func13, Tryz.ntmps13
    go_wp2_with fail
    refine (q1.out _).mono ?_
    rintro e _ ⟨rfl, rfl⟩
    have e0 := stPh_cell (T := 32) (cs' := #[.int .i64 g, .slice ka K.length kcap]) c0 (show w.heap.size ≠ w.heap.size + 1 by omega)
    have e1 := stPh_cell (T := 32) (cs' := #[.int .i64 g, .slice ka K.length kcap]) c1 (show w.heap.size ≠ w.heap.size + 1 by omega)
    clear c0 c1 hW0
    go_wp2_with fail
    refine wp_region_C (stPh W0 (w.heap.size + 1) 32 #[.int .i64 g, .slice ka K.length kcap]) [2] rfl (by kernel_rfl) (by kernel_rfl) (by kernel_rfl) (by kernel_rfl) ?_
    (refine lexc_one (by kernel_rfl) (by kernel_rfl) (by kernel_rfl) (by kernel_rfl) (fun K hK => ?_); go_big_quiet_step (fail); refine wpQuiet_nil (hK _ ?_); clear hK K); (refine lexc_one (by kernel_rfl) (by kernel_rfl) (by kernel_rfl) (by kernel_rfl) (fun K hK => ?_); go_big_quiet_step (fail); refine wpQuiet_nil (hK _ ?_); clear hK K)
    refine lexc_do 0 (by kernel_rfl) (by kernel_rfl) rfl (fun _ _ h => by cases h) (by kernel_rfl) rfl (fun W hW => ?_) ?_
    · have hWb := (hW.resolve_right (fun e => e.1 rfl)).2
      have kW := Blk.below hr0 hWb hr0.lt
      obtain ⟨⟨r0, r1⟩, s0, s1⟩ := cells2 kW
      have hs2 := set2 kW (.int .i64 g) (.slice ka K.length kcap)
      exact ⟨_, by go_simp, trivial, .inr ⟨by omega, (Kept.of_below hWb).trans hs2.2, hs2.1⟩⟩
    (refine lexc_one (by kernel_rfl) (by kernel_rfl) (by kernel_rfl) (by kernel_rfl) (fun K hK => ?_); go_big_quiet_step (fail); refine wpQuiet_nil (hK _ ?_); clear hK K)
    refine lexc_nil (by kernel_rfl) (by kernel_rfl) (by kernel_rfl) ?_
    rintro WE _ hp
    obtain ⟨_, hkE, kE⟩ := hp.resolve_left (fun e => by cases e.1)
    simp only [hideAll]
    go_wp2_with fail
    (try simp only [Exit.inBlock, Exit.then])
    refine bodyPost_ret (results_tct rfl _ _ (w.heap.size + 1) 32 _ _ rfl kE Tryz.underlying32 rfl (by kernel_rfl)) rfl ?_
    exact HE.out W0 WE 1 HP.out hb0 hkE
  | true =>
    rw [hkn] at q1
    obtain ⟨ra, rcap, rfl, hn, hrc⟩ := hR
    have HC := Lib.hid hrc
    clear hrc
    obtain ⟨⟨c0, c1⟩, _⟩ := cells2 hw0
    go_enter Tryz.func13, Tryz.ntmps13
    go_wp2_with fail
    refine (q1.out _).mono ?_
    rintro e _ ⟨rfl, rfl⟩
    clear c0 c1 hW0 q1
    go_wp2_with fail
    go_loopw [20] (fun vi wr => ∃ i : Nat, i ≤ R.length ∧ vi = .int .i64 (i : Int) ∧ firstE g R = firstE g (R.drop i) ∧ Below W0.heap.size W0 wr) (fun vi _ => R.length - (intOf vi).toNat)
    case atStart => exact ⟨0, Nat.zero_le _, rfl, rfl, Below.refl _ _⟩
    obtain ⟨i, hi, rfl, hfe, hb⟩ := hrel
    have hw1 := Blk.below hw0 hb hw0.lt
    have hr1 := Blk.below hr0 hb hr0.lt
    have hbw := hb0.trans (hb.mono hb0.size)
    clear hw0 hr0
    rcases (show i < R.length ∨ i = R.length by omega) with hil | rfl
    · rw [List.drop_eq_getElem_cons hil] at hfe
      obtain ⟨b, o, rfl, hRA⟩ := HC.out i _ (List.getElem?_eq_getElem hil)
      have hRA := hRA.below hbw
      generalize R[i] = x at *
      obtain ⟨hok, sl, e0, e1, hL, e2, e3, e4⟩ := hRA
      obtain ⟨va, vc, rfl, _⟩ := id hL
      have hf2 : firstE g R = if validE x g = 0 then firstE g (R.drop (i + 1)) else validE x g := hfe
      obtain ⟨⟨c0, c1⟩, _⟩ := cells2 hw1
      have b2 := one_alloc wr (.cells #[.int .i64 x.kind, .slice va x.labels.length vc, .int .i64 x.t, .int .i64 x.u, .int .u64 (x.v : Int)] 51)
      have c0' := (b2.cell (World.block_lt_of_cell? _ _ c0)).trans c0
      have qV := Lib.hid (Valid_any x (.slice va x.labels.length vc) g _ hok (hL.below b2) g1 g2)
      rw [show recV x (.slice va x.labels.length vc) = .agg #[.int .i64 x.kind, .slice va x.labels.length vc, .int .i64 x.t, .int .i64 x.u, .int .u64 (x.v : Int)] from rfl] at qV
      have HF := Lib.hid hf2
      clear hfe hf2
      generalize validE x g = ve at *
      go_wp2_with fail
      generalize wr.alloc (.cells #[.int .i64 x.kind, .slice va x.labels.length vc, .int .i64 x.t, .int .i64 x.u, .int .u64 (x.v : Int)] 51) = W2 at *
      refine qV.out.mono ?_
      rintro e W3 ⟨rfl, hb3⟩
      have hb13 : Below wr.heap.size wr W3 := b2.trans (hb3.mono b2.size)
      have hb03 := hb.trans (hb13.mono hb.size)
      by_cases h0v : ve = 0
      · subst h0v
        have HF2 := Lib.hid (HF.out.trans (if_pos rfl))
        clear HE HF qV
        go_wp2_with fail
        go_roundw
        case rel => exact ⟨i + 1, by omega, by go_num, HF2.out, hb03⟩
        case measure => simp [intOf]; omega
      · have hvz : (ve != 0) = true := by simpa using h0v
        have hvz2 : (ve == 0) = false := by simpa using h0v
        have hFe : firstE g R = ve := HF.out.trans (if_neg h0v)
        have HP := Lib.hid (show (walPut g K R).2 = (none, ve) by unfold walPut; rw [if_neg (by rw [hkn]; simp), if_pos (by rw [hFe]; exact h0v), hFe])
        have hw3 := Blk.below hw1 hb13 hw1.lt
        have hr3 := Blk.below hr1 hb13 hr1.lt
        clear c0 c1 c0' e0 e1 e2 e3 e4 qV hFe HF
        obtain ⟨⟨c0, c1⟩, _⟩ := cells2 hw3
        have e0 := stPh_cell (T := 32) (cs' := #[.int .i64 g, .slice ka K.length kcap]) c0 (show w.heap.size ≠ w.heap.size + 1 by omega)
        have e1 := stPh_cell (T := 32) (cs' := #[.int .i64 g, .slice ka K.length kcap]) c1 (show w.heap.size ≠ w.heap.size + 1 by omega)
        clear c0 c1
        go_wp2_with fail
        refine wp_region_C (stPh W3 (w.heap.size + 1) 32 #[.int .i64 g, .slice ka K.length kcap]) [3] rfl (by kernel_rfl) (by kernel_rfl) (by kernel_rfl) (by kernel_rfl) ?_
        (refine lexc_one (by kernel_rfl) (by kernel_rfl) (by kernel_rfl) (by kernel_rfl) (fun K hK => ?_); go_big_quiet_step (fail); refine wpQuiet_nil (hK _ ?_); clear hK K); (refine lexc_one (by kernel_rfl) (by kernel_rfl) (by kernel_rfl) (by kernel_rfl) (fun K hK => ?_); go_big_quiet_step (fail); refine wpQuiet_nil (hK _ ?_); clear hK K); (refine lexc_one (by kernel_rfl) (by kernel_rfl) (by kernel_rfl) (by kernel_rfl) (fun K hK => ?_); go_big_quiet_step (fail); refine wpQuiet_nil (hK _ ?_); clear hK K)
        refine lexc_do 0 (by kernel_rfl) (by kernel_rfl) rfl (fun _ _ h => by cases h) (by kernel_rfl) rfl (fun W hW => ?_) ?_
        · have hWb := (hW.resolve_right (fun e => e.1 rfl)).2
          have kW := Blk.below hr3 hWb hr3.lt
          obtain ⟨⟨r0, r1⟩, s0, s1⟩ := cells2 kW
          have hs2 := set2 kW (.int .i64 g) (.slice ka K.length kcap)
          exact ⟨_, by go_simp, trivial, .inr ⟨by omega, (Kept.of_below hWb).trans hs2.2, hs2.1⟩⟩
        (refine lexc_one (by kernel_rfl) (by kernel_rfl) (by kernel_rfl) (by kernel_rfl) (fun K hK => ?_); go_big_quiet_step (fail); refine wpQuiet_nil (hK _ ?_); clear hK K)
        refine lexc_nil (by kernel_rfl) (by kernel_rfl) (by kernel_rfl) ?_
        rintro WE _ hp
        obtain ⟨_, hkE, kE⟩ := hp.resolve_left (fun e => by cases e.1)
        simp only [hideAll]
        go_wp2_with fail
        (try simp only [Exit.inBlock, Exit.then])
        refine bodyPost_ret (results_tct rfl _ _ (w.heap.size + 1) 32 _ _ rfl kE Tryz.underlying32 rfl (by kernel_rfl)) rfl ?_
        exact HE.out W3 WE ve HP.out (hb0.trans (hb03.mono hb0.size)) hkE
    · rw [List.drop_length] at hfe
      have hF0 : firstE g R = 0 := hfe
      have hval := firstE_zero g R hF0
      have hfits := fun x hx => right_fits x (valid_right x g (hval x hx))
      have hPw : walPut g K R = match putBy g K R with
        | (none, _) => ([], none, 7)
        | (some s, K') => (s, some K', 0) := by unfold walPut; rw [if_neg (by rw [hkn]; simp), if_neg (by rw [hF0]; simp)]
      have hpk := putBy_keys g K R (fun x hx => (hfits x hx).2.2.2.1)
      have q2 := Lib.hid (of_any g (.slice ka K.length kcap) K wr (hKA.below hbw))
      rw [show writerV g (.slice ka K.length kcap) = .agg #[.int .i64 g, .slice ka K.length kcap] from rfl] at q2
      obtain ⟨⟨c0, c1⟩, _⟩ := cells2 hw1
      go_wp2_with fail
      refine q2.out.mono ?_
      rintro e W4 ⟨n, m, kv4, D4, rfl, hN4, hb4⟩
      have hw4 := Blk.below hw1 hb4 hw1.lt
      have hr4 := Blk.below hr1 hb4 hr1.lt
      clear c0 c1 q2 hw1 hr1
      obtain ⟨⟨c0, c1⟩, _⟩ := cells2 hw4
      have q3 := Lib.hid (fun W => coderOf_any g n W)
      have hAW : Below w.heap.size w W4 := hbw.trans (hb4.mono hbw.size)
      have hRw : RecsAt w (.slice ra R.length rcap) R := ⟨ra, rcap, rfl, hn, HC.out⟩
      have hg3 : g = 1 ∨ g = 2 ∨ g = 3 := by
        unfold knownB at hkn
        simp only [Bool.and_eq_true, decide_eq_true_eq] at hkn
        omega
      clear hval hF0 hfe HC hkn
      rcases hg3 with rfl | rfl | rfl
      · rw [show coderV 1 n = .iface 78 (.agg #[]) from rfl] at q3
        have q4 := Lib.hid (cput1 hAW hN4 hRw (fun x hx => (hfits x hx).1))
        clear hfits
        rcases hpb : putBy 1 K R with ⟨r, K'⟩
        rw [hpb] at q4 hPw hpk
        go_wp2_with fail
        refine (q3.out _).mono ?_
        rintro e _ ⟨rfl, rfl⟩
        go_wp2_with fail
        refine q4.out.mono ?_
        rintro e W5 ⟨s5, rfl, hs5, kv5, D5, hN5, hT5⟩
        simp only at hs5 hN5 hpk
        have hw5 := hw4.keptK hT5.kept (nf_tag hN4 (tag_blk hw4) (by decide) (by decide))
        have hr5 := hr4.keptK hT5.kept (nf_tag hN4 (tag_blk hr4) (by decide) (by decide))
        have hbW5 := (hbw.mono (Nat.le_refl _)).trans ((hb4.mono hbw.size).trans ((Kept.below hT5.kept hb4.size hN4.ge).mono hbw.size))
        clear q4 q3 hw4 hr4 c0 c1 hN4 hT5 hb4
        obtain ⟨⟨c0, c1⟩, _⟩ := cells2 hw5
        cases r with
        | none =>
          have HP := Lib.hid (show (walPut 1 K R).2 = (none, 7) by rw [hPw])
          have e0 := stPh_cell (T := 32) (cs' := #[.int .i64 1, .slice ka K.length kcap]) c0 (show w.heap.size ≠ w.heap.size + 1 by omega)
          have e1 := stPh_cell (T := 32) (cs' := #[.int .i64 1, .slice ka K.length kcap]) c1 (show w.heap.size ≠ w.heap.size + 1 by omega)
          clear c0 c1 hPw
          go_wp2_with fail
          refine wp_region_C (stPh W5 (w.heap.size + 1) 32 #[.int .i64 1, .slice ka K.length kcap]) [2] rfl (by kernel_rfl) (by kernel_rfl) (by kernel_rfl) (by kernel_rfl) ?_
          (refine lexc_one (by kernel_rfl) (by kernel_rfl) (by kernel_rfl) (by kernel_rfl) (fun K hK => ?_); go_big_quiet_step (fail); refine wpQuiet_nil (hK _ ?_); clear hK K); (refine lexc_one (by kernel_rfl) (by kernel_rfl) (by kernel_rfl) (by kernel_rfl) (fun K hK => ?_); go_big_quiet_step (fail); refine wpQuiet_nil (hK _ ?_); clear hK K)
          refine lexc_do 0 (by kernel_rfl) (by kernel_rfl) rfl (fun _ _ h => by cases h) (by kernel_rfl) rfl (fun W hW => ?_) ?_
          · have hWb := (hW.resolve_right (fun e => e.1 rfl)).2
            have kW := Blk.below hr5 hWb hr5.lt
            obtain ⟨⟨r0, r1⟩, s0, s1⟩ := cells2 kW
            have hs2 := set2 kW (.int .i64 1) (.slice ka K.length kcap)
            exact ⟨_, by go_simp, trivial, .inr ⟨by omega, (Kept.of_below hWb).trans hs2.2, hs2.1⟩⟩
          (refine lexc_one (by kernel_rfl) (by kernel_rfl) (by kernel_rfl) (by kernel_rfl) (fun K hK => ?_); go_big_quiet_step (fail); refine wpQuiet_nil (hK _ ?_); clear hK K)
          refine lexc_nil (by kernel_rfl) (by kernel_rfl) (by kernel_rfl) ?_
          rintro WE _ hp
          obtain ⟨_, hkE, kE⟩ := hp.resolve_left (fun e => by cases e.1)
          simp only [hideAll]
          go_wp2_with fail
          (try simp only [Exit.inBlock, Exit.then])
          refine bodyPost_ret (results_tct rfl _ _ (w.heap.size + 1) 32 _ _ rfl kE Tryz.underlying32 rfl (by kernel_rfl)) rfl ?_
          exact HE.out W5 WE 7 HP.out hbW5 hkE
        | some s0 =>
          obtain rfl := hs5 s0 rfl
          have hN5 := hN5 (by simp)
          obtain ⟨na, nc, rfl⟩ := hN5.form
          have n0 := (cells2 hN5.blk).1.1
          have hnw : n ≠ w.heap.size + 1 := fun e => by
            have := tag_blk hN5.blk
            rw [e, tag_blk hr5] at this
            simp at this
          have e0 := stPh_cell (T := 32) (cs' := #[.int .i64 1, .slice na K'.length nc]) c0 (show w.heap.size ≠ w.heap.size + 1 by omega)
          have e1 := stPh_cell (T := 32) (cs' := #[.int .i64 1, .slice na K'.length nc]) n0 hnw
          have HP := Lib.hid (show walPut 1 K R = (s0, some K', 0) by rw [hPw])
          have hKA5 : KeysAt W5 (.slice na K'.length nc) K' := keysAt_row hN5.row (by omega) (fun x hx => (hpk.2 x hx).elim (fun h => by
            obtain ⟨i, hi⟩ := List.getElem?_of_mem h
            obtain ⟨_, _, _, _, hq⟩ := hKA
            exact (hq i x hi).1) (fun h => by omega))
          have hnk := nf_tag hN5 (tag_blk hr5) (by decide) (by decide)
          have hrowt := hN5.row
          clear c0 c1 n0 hPw
          go_wp2_with fail
          refine wp_region_C (stPh W5 (w.heap.size + 1) 32 #[.int .i64 1, .slice na K'.length nc]) [9] rfl (by kernel_rfl) (by kernel_rfl) (by kernel_rfl) (by kernel_rfl) ?_
          (refine lexc_one (by kernel_rfl) (by kernel_rfl) (by kernel_rfl) (by kernel_rfl) (fun K hK => ?_); go_big_quiet_step (fail); refine wpQuiet_nil (hK _ ?_); clear hK K); (refine lexc_one (by kernel_rfl) (by kernel_rfl) (by kernel_rfl) (by kernel_rfl) (fun K hK => ?_); go_big_quiet_step (fail); refine wpQuiet_nil (hK _ ?_); clear hK K); (refine lexc_one (by kernel_rfl) (by kernel_rfl) (by kernel_rfl) (by kernel_rfl) (fun K hK => ?_); go_big_quiet_step (fail); refine wpQuiet_nil (hK _ ?_); clear hK K); (refine lexc_one (by kernel_rfl) (by kernel_rfl) (by kernel_rfl) (by kernel_rfl) (fun K hK => ?_); go_big_quiet_step (fail); refine wpQuiet_nil (hK _ ?_); clear hK K); (refine lexc_one (by kernel_rfl) (by kernel_rfl) (by kernel_rfl) (by kernel_rfl) (fun K hK => ?_); go_big_quiet_step (fail); refine wpQuiet_nil (hK _ ?_); clear hK K); (refine lexc_one (by kernel_rfl) (by kernel_rfl) (by kernel_rfl) (by kernel_rfl) (fun K hK => ?_); go_big_quiet_step (fail); refine wpQuiet_nil (hK _ ?_); clear hK K); (refine lexc_one (by kernel_rfl) (by kernel_rfl) (by kernel_rfl) (by kernel_rfl) (fun K hK => ?_); go_big_quiet_step (fail); refine wpQuiet_nil (hK _ ?_); clear hK K)
          (refine lexc_val (v := .agg #[.int .i64 1, .slice na K'.length nc]) (by kernel_rfl) (by kernel_rfl) (fun _ _ h => by cases h) (by kernel_rfl) (by kernel_rfl) (fun W hW => by skip; go_simp) (lexc_put (type := 0) (pos := "") (fun K hK => ?_)); go_big_quiet_step (fail); refine wpQuiet_nil (hK _ ?_); clear hK K)
          (refine lexc_one (by kernel_rfl) (by kernel_rfl) (by kernel_rfl) (by kernel_rfl) (fun K hK => ?_); go_big_quiet_step (fail); refine wpQuiet_nil (hK _ ?_); clear hK K)
          refine lexc_do 0 (by kernel_rfl) (by kernel_rfl) rfl (fun _ _ h => by cases h) (by kernel_rfl) rfl (fun W hW => ?_) ?_
          · have hWb := (hW.resolve_right (fun e => e.1 rfl)).2
            have kW := Blk.below hr5 hWb hr5.lt
            obtain ⟨⟨r0, r1⟩, s0, s1⟩ := cells2 kW
            have hs2 := set2 kW (.int .i64 1) (.slice na K'.length nc)
            exact ⟨_, by go_simp, trivial, .inr ⟨by omega, (Kept.of_below hWb).trans hs2.2, hs2.1⟩⟩
          (refine lexc_one (by kernel_rfl) (by kernel_rfl) (by kernel_rfl) (by kernel_rfl) (fun K hK => ?_); go_big_quiet_step (fail); refine wpQuiet_nil (hK _ ?_); clear hK K)
          refine lexc_nil (by kernel_rfl) (by kernel_rfl) (by kernel_rfl) ?_
          rintro WE _ hp
          obtain ⟨_, hkE, kE⟩ := hp.resolve_left (fun e => by cases e.1)
          simp only [hideAll]
          go_wp2_with fail
          (try simp only [Exit.inBlock, Exit.then])
          refine bodyPost_ret (results_tct rfl _ _ (w.heap.size + 1) 32 _ _ rfl kE Tryz.underlying32 rfl (by kernel_rfl)) rfl ?_
          unfold PutIs
          rw [HP.out]
          refine ⟨hbW5.trans (Kept.below hkE hbW5.size (fun k hk => by omega)), _, rfl, ?_⟩
          have hrowE := ownsRow_kept hrowt hkE (fun b hb e => hnk (by rw [← e]; exact .inr (.inr hb)))
          refine ⟨?_, fun b hb => tag_row hrowE hb⟩
          exact keysAt_row hrowE (by omega) (fun x hx => (hpk.2 x hx).elim (fun h => by
            obtain ⟨i, hi⟩ := List.getElem?_of_mem h
            obtain ⟨_, _, _, _, hq⟩ := hKA
            exact (hq i x hi).1) (fun h => by omega))
      · rw [show coderV 2 n = .iface 80 (.agg #[.pointer (some ⟨n, 0, none⟩)]) from rfl] at q3
        have q4 := Lib.hid (cput2 hAW hbw.size hN4 hRw (fun x hx => (hfits x hx).2.1) (by omega) hb4.size)
        clear hfits
        rcases hpb : putBy 2 K R with ⟨r, K'⟩
        rw [hpb] at q4 hPw hpk
        go_wp2_with fail
        refine (q3.out _).mono ?_
        rintro e _ ⟨rfl, rfl⟩
        go_wp2_with fail
        refine q4.out.mono ?_
        rintro e W5 ⟨s5, rfl, hs5, kv5, D5, hN5, hT5⟩
        simp only at hs5 hN5 hpk
        have hw5 := hw4.keptK hT5.kept (nf_tag hN4 (tag_blk hw4) (by decide) (by decide))
        have hr5 := hr4.keptK hT5.kept (nf_tag hN4 (tag_blk hr4) (by decide) (by decide))
        have hbW5 := (hbw.mono (Nat.le_refl _)).trans ((hb4.mono hbw.size).trans ((Kept.below hT5.kept hb4.size hN4.ge).mono hbw.size))
        clear q4 q3 hw4 hr4 c0 c1 hN4 hT5 hb4
        obtain ⟨⟨c0, c1⟩, _⟩ := cells2 hw5
        cases r with
        | none =>
          have HP := Lib.hid (show (walPut 2 K R).2 = (none, 7) by rw [hPw])
          have e0 := stPh_cell (T := 32) (cs' := #[.int .i64 2, .slice ka K.length kcap]) c0 (show w.heap.size ≠ w.heap.size + 1 by omega)
          have e1 := stPh_cell (T := 32) (cs' := #[.int .i64 2, .slice ka K.length kcap]) c1 (show w.heap.size ≠ w.heap.size + 1 by omega)
          clear c0 c1 hPw
          go_wp2_with fail
          refine wp_region_C (stPh W5 (w.heap.size + 1) 32 #[.int .i64 2, .slice ka K.length kcap]) [2] rfl (by kernel_rfl) (by kernel_rfl) (by kernel_rfl) (by kernel_rfl) ?_
          (refine lexc_one (by kernel_rfl) (by kernel_rfl) (by kernel_rfl) (by kernel_rfl) (fun K hK => ?_); go_big_quiet_step (fail); refine wpQuiet_nil (hK _ ?_); clear hK K); (refine lexc_one (by kernel_rfl) (by kernel_rfl) (by kernel_rfl) (by kernel_rfl) (fun K hK => ?_); go_big_quiet_step (fail); refine wpQuiet_nil (hK _ ?_); clear hK K)
          refine lexc_do 0 (by kernel_rfl) (by kernel_rfl) rfl (fun _ _ h => by cases h) (by kernel_rfl) rfl (fun W hW => ?_) ?_
          · have hWb := (hW.resolve_right (fun e => e.1 rfl)).2
            have kW := Blk.below hr5 hWb hr5.lt
            obtain ⟨⟨r0, r1⟩, s0, s1⟩ := cells2 kW
            have hs2 := set2 kW (.int .i64 2) (.slice ka K.length kcap)
            exact ⟨_, by go_simp, trivial, .inr ⟨by omega, (Kept.of_below hWb).trans hs2.2, hs2.1⟩⟩
          (refine lexc_one (by kernel_rfl) (by kernel_rfl) (by kernel_rfl) (by kernel_rfl) (fun K hK => ?_); go_big_quiet_step (fail); refine wpQuiet_nil (hK _ ?_); clear hK K)
          refine lexc_nil (by kernel_rfl) (by kernel_rfl) (by kernel_rfl) ?_
          rintro WE _ hp
          obtain ⟨_, hkE, kE⟩ := hp.resolve_left (fun e => by cases e.1)
          simp only [hideAll]
          go_wp2_with fail
          (try simp only [Exit.inBlock, Exit.then])
          refine bodyPost_ret (results_tct rfl _ _ (w.heap.size + 1) 32 _ _ rfl kE Tryz.underlying32 rfl (by kernel_rfl)) rfl ?_
          exact HE.out W5 WE 7 HP.out hbW5 hkE
        | some s0 =>
          obtain rfl := hs5 s0 rfl
          have hN5 := hN5 (by simp)
          obtain ⟨na, nc, rfl⟩ := hN5.form
          have n0 := (cells2 hN5.blk).1.1
          have hnw : n ≠ w.heap.size + 1 := fun e => by
            have := tag_blk hN5.blk
            rw [e, tag_blk hr5] at this
            simp at this
          have e0 := stPh_cell (T := 32) (cs' := #[.int .i64 2, .slice na K'.length nc]) c0 (show w.heap.size ≠ w.heap.size + 1 by omega)
          have e1 := stPh_cell (T := 32) (cs' := #[.int .i64 2, .slice na K'.length nc]) n0 hnw
          have HP := Lib.hid (show walPut 2 K R = (s0, some K', 0) by rw [hPw])
          have hKA5 : KeysAt W5 (.slice na K'.length nc) K' := keysAt_row hN5.row (by omega) (fun x hx => (hpk.2 x hx).elim (fun h => by
            obtain ⟨i, hi⟩ := List.getElem?_of_mem h
            obtain ⟨_, _, _, _, hq⟩ := hKA
            exact (hq i x hi).1) (fun h => by omega))
          have hnk := nf_tag hN5 (tag_blk hr5) (by decide) (by decide)
          have hrowt := hN5.row
          clear c0 c1 n0 hPw
          go_wp2_with fail
          refine wp_region_C (stPh W5 (w.heap.size + 1) 32 #[.int .i64 2, .slice na K'.length nc]) [9] rfl (by kernel_rfl) (by kernel_rfl) (by kernel_rfl) (by kernel_rfl) ?_
          (refine lexc_one (by kernel_rfl) (by kernel_rfl) (by kernel_rfl) (by kernel_rfl) (fun K hK => ?_); go_big_quiet_step (fail); refine wpQuiet_nil (hK _ ?_); clear hK K); (refine lexc_one (by kernel_rfl) (by kernel_rfl) (by kernel_rfl) (by kernel_rfl) (fun K hK => ?_); go_big_quiet_step (fail); refine wpQuiet_nil (hK _ ?_); clear hK K); (refine lexc_one (by kernel_rfl) (by kernel_rfl) (by kernel_rfl) (by kernel_rfl) (fun K hK => ?_); go_big_quiet_step (fail); refine wpQuiet_nil (hK _ ?_); clear hK K); (refine lexc_one (by kernel_rfl) (by kernel_rfl) (by kernel_rfl) (by kernel_rfl) (fun K hK => ?_); go_big_quiet_step (fail); refine wpQuiet_nil (hK _ ?_); clear hK K); (refine lexc_one (by kernel_rfl) (by kernel_rfl) (by kernel_rfl) (by kernel_rfl) (fun K hK => ?_); go_big_quiet_step (fail); refine wpQuiet_nil (hK _ ?_); clear hK K); (refine lexc_one (by kernel_rfl) (by kernel_rfl) (by kernel_rfl) (by kernel_rfl) (fun K hK => ?_); go_big_quiet_step (fail); refine wpQuiet_nil (hK _ ?_); clear hK K); (refine lexc_one (by kernel_rfl) (by kernel_rfl) (by kernel_rfl) (by kernel_rfl) (fun K hK => ?_); go_big_quiet_step (fail); refine wpQuiet_nil (hK _ ?_); clear hK K)
          (refine lexc_val (v := .agg #[.int .i64 2, .slice na K'.length nc]) (by kernel_rfl) (by kernel_rfl) (fun _ _ h => by cases h) (by kernel_rfl) (by kernel_rfl) (fun W hW => by skip; go_simp) (lexc_put (type := 0) (pos := "") (fun K hK => ?_)); go_big_quiet_step (fail); refine wpQuiet_nil (hK _ ?_); clear hK K)
          (refine lexc_one (by kernel_rfl) (by kernel_rfl) (by kernel_rfl) (by kernel_rfl) (fun K hK => ?_); go_big_quiet_step (fail); refine wpQuiet_nil (hK _ ?_); clear hK K)
          refine lexc_do 0 (by kernel_rfl) (by kernel_rfl) rfl (fun _ _ h => by cases h) (by kernel_rfl) rfl (fun W hW => ?_) ?_
          · have hWb := (hW.resolve_right (fun e => e.1 rfl)).2
            have kW := Blk.below hr5 hWb hr5.lt
            obtain ⟨⟨r0, r1⟩, s0, s1⟩ := cells2 kW
            have hs2 := set2 kW (.int .i64 2) (.slice na K'.length nc)
            exact ⟨_, by go_simp, trivial, .inr ⟨by omega, (Kept.of_below hWb).trans hs2.2, hs2.1⟩⟩
          (refine lexc_one (by kernel_rfl) (by kernel_rfl) (by kernel_rfl) (by kernel_rfl) (fun K hK => ?_); go_big_quiet_step (fail); refine wpQuiet_nil (hK _ ?_); clear hK K)
          refine lexc_nil (by kernel_rfl) (by kernel_rfl) (by kernel_rfl) ?_
          rintro WE _ hp
          obtain ⟨_, hkE, kE⟩ := hp.resolve_left (fun e => by cases e.1)
          simp only [hideAll]
          go_wp2_with fail
          (try simp only [Exit.inBlock, Exit.then])
          refine bodyPost_ret (results_tct rfl _ _ (w.heap.size + 1) 32 _ _ rfl kE Tryz.underlying32 rfl (by kernel_rfl)) rfl ?_
          unfold PutIs
          rw [HP.out]
          refine ⟨hbW5.trans (Kept.below hkE hbW5.size (fun k hk => by omega)), _, rfl, ?_⟩
          have hrowE := ownsRow_kept hrowt hkE (fun b hb e => hnk (by rw [← e]; exact .inr (.inr hb)))
          refine ⟨?_, fun b hb => tag_row hrowE hb⟩
          exact keysAt_row hrowE (by omega) (fun x hx => (hpk.2 x hx).elim (fun h => by
            obtain ⟨i, hi⟩ := List.getElem?_of_mem h
            obtain ⟨_, _, _, _, hq⟩ := hKA
            exact (hq i x hi).1) (fun h => by omega))
      · rw [show coderV 3 n = .iface 82 (.agg #[.pointer (some ⟨n, 0, none⟩)]) from rfl] at q3
        have q4 := Lib.hid (cput3 hAW hbw.size hN4 hRw (fun x hx => (hfits x hx).2.2) hR1 hK hb4.size)
        clear hfits
        rcases hpb : putBy 3 K R with ⟨r, K'⟩
        rw [hpb] at q4 hPw hpk
        go_wp2_with fail
        refine (q3.out _).mono ?_
        rintro e _ ⟨rfl, rfl⟩
        go_wp2_with fail
        refine q4.out.mono ?_
        rintro e W5 ⟨s5, rfl, hs5, kv5, D5, hN5, hT5⟩
        simp only at hs5 hN5 hpk
        have hw5 := hw4.keptK hT5.kept (nf_tag hN4 (tag_blk hw4) (by decide) (by decide))
        have hr5 := hr4.keptK hT5.kept (nf_tag hN4 (tag_blk hr4) (by decide) (by decide))
        have hbW5 := (hbw.mono (Nat.le_refl _)).trans ((hb4.mono hbw.size).trans ((Kept.below hT5.kept hb4.size hN4.ge).mono hbw.size))
        clear q4 q3 hw4 hr4 c0 c1 hN4 hT5 hb4
        obtain ⟨⟨c0, c1⟩, _⟩ := cells2 hw5
        cases r with
        | none =>
          have HP := Lib.hid (show (walPut 3 K R).2 = (none, 7) by rw [hPw])
          have e0 := stPh_cell (T := 32) (cs' := #[.int .i64 3, .slice ka K.length kcap]) c0 (show w.heap.size ≠ w.heap.size + 1 by omega)
          have e1 := stPh_cell (T := 32) (cs' := #[.int .i64 3, .slice ka K.length kcap]) c1 (show w.heap.size ≠ w.heap.size + 1 by omega)
          clear c0 c1 hPw
          go_wp2_with fail
          refine wp_region_C (stPh W5 (w.heap.size + 1) 32 #[.int .i64 3, .slice ka K.length kcap]) [2] rfl (by kernel_rfl) (by kernel_rfl) (by kernel_rfl) (by kernel_rfl) ?_
          (refine lexc_one (by kernel_rfl) (by kernel_rfl) (by kernel_rfl) (by kernel_rfl) (fun K hK => ?_); go_big_quiet_step (fail); refine wpQuiet_nil (hK _ ?_); clear hK K); (refine lexc_one (by kernel_rfl) (by kernel_rfl) (by kernel_rfl) (by kernel_rfl) (fun K hK => ?_); go_big_quiet_step (fail); refine wpQuiet_nil (hK _ ?_); clear hK K)
          refine lexc_do 0 (by kernel_rfl) (by kernel_rfl) rfl (fun _ _ h => by cases h) (by kernel_rfl) rfl (fun W hW => ?_) ?_
          · have hWb := (hW.resolve_right (fun e => e.1 rfl)).2
            have kW := Blk.below hr5 hWb hr5.lt
            obtain ⟨⟨r0, r1⟩, s0, s1⟩ := cells2 kW
            have hs2 := set2 kW (.int .i64 3) (.slice ka K.length kcap)
            exact ⟨_, by go_simp, trivial, .inr ⟨by omega, (Kept.of_below hWb).trans hs2.2, hs2.1⟩⟩
          (refine lexc_one (by kernel_rfl) (by kernel_rfl) (by kernel_rfl) (by kernel_rfl) (fun K hK => ?_); go_big_quiet_step (fail); refine wpQuiet_nil (hK _ ?_); clear hK K)
          refine lexc_nil (by kernel_rfl) (by kernel_rfl) (by kernel_rfl) ?_
          rintro WE _ hp
          obtain ⟨_, hkE, kE⟩ := hp.resolve_left (fun e => by cases e.1)
          simp only [hideAll]
          go_wp2_with fail
          (try simp only [Exit.inBlock, Exit.then])
          refine bodyPost_ret (results_tct rfl _ _ (w.heap.size + 1) 32 _ _ rfl kE Tryz.underlying32 rfl (by kernel_rfl)) rfl ?_
          exact HE.out W5 WE 7 HP.out hbW5 hkE
        | some s0 =>
          obtain rfl := hs5 s0 rfl
          have hN5 := hN5 (by simp)
          obtain ⟨na, nc, rfl⟩ := hN5.form
          have n0 := (cells2 hN5.blk).1.1
          have hnw : n ≠ w.heap.size + 1 := fun e => by
            have := tag_blk hN5.blk
            rw [e, tag_blk hr5] at this
            simp at this
          have e0 := stPh_cell (T := 32) (cs' := #[.int .i64 3, .slice na K'.length nc]) c0 (show w.heap.size ≠ w.heap.size + 1 by omega)
          have e1 := stPh_cell (T := 32) (cs' := #[.int .i64 3, .slice na K'.length nc]) n0 hnw
          have HP := Lib.hid (show walPut 3 K R = (s0, some K', 0) by rw [hPw])
          have hKA5 : KeysAt W5 (.slice na K'.length nc) K' := keysAt_row hN5.row (by omega) (fun x hx => (hpk.2 x hx).elim (fun h => by
            obtain ⟨i, hi⟩ := List.getElem?_of_mem h
            obtain ⟨_, _, _, _, hq⟩ := hKA
            exact (hq i x hi).1) (fun h => by omega))
          have hnk := nf_tag hN5 (tag_blk hr5) (by decide) (by decide)
          have hrowt := hN5.row
          clear c0 c1 n0 hPw
          go_wp2_with fail
          refine wp_region_C (stPh W5 (w.heap.size + 1) 32 #[.int .i64 3, .slice na K'.length nc]) [9] rfl (by kernel_rfl) (by kernel_rfl) (by kernel_rfl) (by kernel_rfl) ?_
          (refine lexc_one (by kernel_rfl) (by kernel_rfl) (by kernel_rfl) (by kernel_rfl) (fun K hK => ?_); go_big_quiet_step (fail); refine wpQuiet_nil (hK _ ?_); clear hK K); (refine lexc_one (by kernel_rfl) (by kernel_rfl) (by kernel_rfl) (by kernel_rfl) (fun K hK => ?_); go_big_quiet_step (fail); refine wpQuiet_nil (hK _ ?_); clear hK K); (refine lexc_one (by kernel_rfl) (by kernel_rfl) (by kernel_rfl) (by kernel_rfl) (fun K hK => ?_); go_big_quiet_step (fail); refine wpQuiet_nil (hK _ ?_); clear hK K); (refine lexc_one (by kernel_rfl) (by kernel_rfl) (by kernel_rfl) (by kernel_rfl) (fun K hK => ?_); go_big_quiet_step (fail); refine wpQuiet_nil (hK _ ?_); clear hK K); (refine lexc_one (by kernel_rfl) (by kernel_rfl) (by kernel_rfl) (by kernel_rfl) (fun K hK => ?_); go_big_quiet_step (fail); refine wpQuiet_nil (hK _ ?_); clear hK K); (refine lexc_one (by kernel_rfl) (by kernel_rfl) (by kernel_rfl) (by kernel_rfl) (fun K hK => ?_); go_big_quiet_step (fail); refine wpQuiet_nil (hK _ ?_); clear hK K); (refine lexc_one (by kernel_rfl) (by kernel_rfl) (by kernel_rfl) (by kernel_rfl) (fun K hK => ?_); go_big_quiet_step (fail); refine wpQuiet_nil (hK _ ?_); clear hK K)
          (refine lexc_val (v := .agg #[.int .i64 3, .slice na K'.length nc]) (by kernel_rfl) (by kernel_rfl) (fun _ _ h => by cases h) (by kernel_rfl) (by kernel_rfl) (fun W hW => by skip; go_simp) (lexc_put (type := 0) (pos := "") (fun K hK => ?_)); go_big_quiet_step (fail); refine wpQuiet_nil (hK _ ?_); clear hK K)
          (refine lexc_one (by kernel_rfl) (by kernel_rfl) (by kernel_rfl) (by kernel_rfl) (fun K hK => ?_); go_big_quiet_step (fail); refine wpQuiet_nil (hK _ ?_); clear hK K)
          refine lexc_do 0 (by kernel_rfl) (by kernel_rfl) rfl (fun _ _ h => by cases h) (by kernel_rfl) rfl (fun W hW => ?_) ?_
          · have hWb := (hW.resolve_right (fun e => e.1 rfl)).2
            have kW := Blk.below hr5 hWb hr5.lt
            obtain ⟨⟨r0, r1⟩, s0, s1⟩ := cells2 kW
            have hs2 := set2 kW (.int .i64 3) (.slice na K'.length nc)
            exact ⟨_, by go_simp, trivial, .inr ⟨by omega, (Kept.of_below hWb).trans hs2.2, hs2.1⟩⟩
          (refine lexc_one (by kernel_rfl) (by kernel_rfl) (by kernel_rfl) (by kernel_rfl) (fun K hK => ?_); go_big_quiet_step (fail); refine wpQuiet_nil (hK _ ?_); clear hK K)
          refine lexc_nil (by kernel_rfl) (by kernel_rfl) (by kernel_rfl) ?_
          rintro WE _ hp
          obtain ⟨_, hkE, kE⟩ := hp.resolve_left (fun e => by cases e.1)
          simp only [hideAll]
          go_wp2_with fail
          (try simp only [Exit.inBlock, Exit.then])
          refine bodyPost_ret (results_tct rfl _ _ (w.heap.size + 1) 32 _ _ rfl kE Tryz.underlying32 rfl (by kernel_rfl)) rfl ?_
          unfold PutIs
          rw [HP.out]
          refine ⟨hbW5.trans (Kept.below hkE hbW5.size (fun k hk => by omega)), _, rfl, ?_⟩
          have hrowE := ownsRow_kept hrowt hkE (fun b hb e => hnk (by rw [← e]; exact .inr (.inr hb)))
          refine ⟨?_, fun b hb => tag_row hrowE hb⟩
          exact keysAt_row hrowE (by omega) (fun x hx => (hpk.2 x hx).elim (fun h => by
            obtain ⟨i, hi⟩ := List.getElem?_of_mem h
            obtain ⟨_, _, _, _, hq⟩ := hKA
            exact (hq i x hi).1) (fun h => by omega))
end Go.Proofs.YtipdeiiipdnacaaGreat
namespace Go.Proofs.YtipdeiiipdnacaaGreat
open Go.RowKit Go.Maps Go.WideMaps
attribute [local go_sem] bs_toList bs_size

theorem sN_short (c : CS) (h : (sN c).2 = false) : (sN c).1.length < c.1.length := by
  unfold sN Num.nxt at *
  split at h
  · rename_i h1
    rw [h1] at h
    cases h
  · rename_i h1
    rw [if_neg h1]
    cases hg : Num.getSmall c.1 with
    | none => rw [hg] at h; cases h
    | some x =>
      obtain ⟨v, k⟩ := x
      obtain ⟨_, h2, h3⟩ := Num.getSmall_only _ _ _ hg
      have := Num.small_len v
      have := congrArg List.length h3
      simp only [List.length_append, List.length_drop] at this ⊢
      omega
theorem get1P_cons (smp : CS → (Int × Nat) × CS) (hs : ∀ c, (smp c).2.1.length ≤ c.1.length) (K : List (List UInt8)) (c : CS) (x : Rc) (K' : List (List UInt8)) (c' : CS) (h : get1P smp K c = (some (x, K'), c')) : c'.1.length < c.1.length := by
  by_cases hb : (sN c).2 = true ∨ 2 < sV c
  · unfold get1P at h
    rw [if_pos hb] at h
    cases h
  · have hb2 : (sN c).2 = false := by
      cases he : (sN c).2 with
      | false => rfl
      | true => exact absurd (.inl he) hb
    have h1 := sN_short c hb2
    refine Nat.lt_of_le_of_lt ?_ h1
    have h2 := namesGet_len K (sN c)
    unfold get1P at h
    rw [if_neg hb] at h
    split at h
    · split at h
      · cases h
      · rw [← (Prod.mk.inj h).2]
        exact nxt_len _ _
    · rcases hn : namesGet K (sN c) with ⟨r, c2⟩
      rw [hn] at h h2
      cases r with
      | none => cases h
      | some z =>
        obtain ⟨L, K2⟩ := z
        dsimp only at h
        split at h
        · split at h
          · cases h
          · rw [← (Prod.mk.inj h).2]
            exact Nat.le_trans (hs _) h2
        · split at h
          · cases h
          · rw [← (Prod.mk.inj h).2]
            exact Nat.le_trans (Nat.le_trans (nxt_len _ _) (nxt_len _ _)) h2
theorem smp2_len (c : CS) : (smp2 c).2.1.length ≤ c.1.length := Nat.le_trans (nxt_len _ _) (nxt_len _ _)
theorem batGetLoop_cons : ∀ (q : Nat) (K : List (List UInt8)) (lt : Int) (lv : Nat) (c : CS) (l : List Rc) (K' : List (List UInt8)) (c' : CS), batGetLoop q K lt lv c = (some (l, K'), c') → K'.length + c'.1.length ≤ K.length + c.1.length ∧ l.length + c'.1.length ≤ c.1.length ∧ ∀ k ∈ K', k ∈ K ∨ k.length ≤ 600
  | 0, K, lt, lv, c, l, K', c', h => by
    obtain ⟨h1, rfl⟩ := Prod.mk.inj h
    obtain ⟨rfl, rfl⟩ := Prod.mk.inj (Option.some.inj h1)
    exact ⟨Nat.le_refl _, by simp, fun k hk => .inl hk⟩
  | q + 1, K, lt, lv, c, l, K', c', h => by
    unfold batGetLoop at h
    rcases hg : get1P (smp3 lt lv) K c with ⟨r, c1⟩
    rw [hg] at h
    cases r with
    | none => cases h
    | some z =>
      obtain ⟨x, K1⟩ := z
      have h1 := get1P_cons _ (smp3_len lt lv) K c x K1 c1 hg
      have h2 := get1P_keys _ K c x K1 c1 hg
      dsimp only at h
      split at h
      · cases h
      · rcases hr : batGetLoop q K1 (if x.kind = 0 then x.t else lt) (if x.kind = 0 then x.v else lv) c1 with ⟨r2, c2⟩
        rw [hr] at h
        cases r2 with
        | none => cases h
        | some z2 =>
          obtain ⟨l2, K2⟩ := z2
          have ih := batGetLoop_cons q K1 _ _ c1 l2 K2 c2 hr
          obtain ⟨h3, rfl⟩ := Prod.mk.inj h
          obtain ⟨rfl, rfl⟩ := Prod.mk.inj (Option.some.inj h3)
          refine ⟨by omega, by simp only [List.length_cons]; omega, fun k hk => ?_⟩
          exact (ih.2.2 k hk).elim (h2.2 k) .inr
theorem frameGet_cons (s : List UInt8) (m : Nat) (h : (frameGet s m).2.2 = 0) : (frameGet s m).1.length + (frameGet s m).2.1.length < s.length := by
  unfold frameGet at h ⊢
  cases hg : Num.getSmall s with
  | none =>
    rw [hg] at h
    simp only at h
    split at h <;> cases h
  | some z =>
    obtain ⟨n, k⟩ := z
    rw [hg] at h
    simp only at h ⊢
    split at h
    · cases h
    · rename_i h1
      rw [if_neg h1]
      split at h
      · cases h
      · rename_i h2
        rw [if_neg h2]
        split at h
        · rename_i h3
          rw [if_pos h3]
          simp only [List.length_take, List.length_drop] at h2 ⊢
          omega
        · cases h

/-- What any generation gets: changes, the keys then, what is left; or the shape. -/
def getBy (g : Int) (K : List (List UInt8)) (s : List UInt8) : Option (List Rc × List (List UInt8) × List UInt8) × Int :=
  if g = 1 then match fixGet s with
    | (none, e) => (none, e)
    | (some x, e) => (some ([x], K, s.drop 186), e)
  else if g = 2 then match smallGet K s with
    | (none, e) => (none, e)
    | (some (x, K'), e) => (some ([x], K', (frameGet s 20000).2.1), e)
  else match batGet K s with
    | (none, e) => (none, e)
    | (some (l, K'), e) => (some (l, K', (frameGet s 20000).2.1), e)
theorem getBy_cons (g : Int) (K : List (List UInt8)) (s : List UInt8) (l : List Rc) (K' : List (List UInt8)) (r : List UInt8) (e : Int) (h : getBy g K s = (some (l, K', r), e)) : K'.length + r.length ≤ K.length + s.length ∧ l.length + r.length ≤ s.length ∧ r.length < s.length ∧ ∀ k ∈ K', k ∈ K ∨ k.length ≤ 600 := by
  unfold getBy at h
  split at h
  · unfold fixGet at h
    split at h
    · cases h
    · rename_i x e2 hf
      obtain ⟨h1, _⟩ := Prod.mk.inj h
      obtain ⟨rfl, h2⟩ := Prod.mk.inj (Option.some.inj h1)
      obtain ⟨rfl, rfl⟩ := Prod.mk.inj h2
      split at hf
      · cases hf
      · refine ⟨by simp, by simp; omega, by simp; omega, fun k hk => .inl hk⟩
  · split at h
    · split at h
      · cases h
      · rename_i x K2 e2 hf
        obtain ⟨h1, _⟩ := Prod.mk.inj h
        obtain ⟨rfl, h2⟩ := Prod.mk.inj (Option.some.inj h1)
        obtain ⟨rfl, rfl⟩ := Prod.mk.inj h2
        unfold smallGet at hf
        split at hf
        · cases hf
        · rename_i hz
          have hc := frameGet_cons s 20000 (by simpa using hz)
          split at hf
          · cases hf
          · rename_i x3 K3 c3 hp
            split at hf
            · cases hf
            · obtain ⟨h4, _⟩ := Prod.mk.inj hf
              obtain ⟨rfl, rfl⟩ := Prod.mk.inj (Option.some.inj h4)
              have h5 := get1P_cons _ smp2_len _ _ _ _ _ hp
              have h6 := get1P_keys _ _ _ _ _ _ hp
              simp only at h5
              refine ⟨by omega, by simp only [List.length_cons, List.length_nil]; omega, by omega, h6.2⟩
    · split at h
      · cases h
      · rename_i l2 K2 e2 hf
        obtain ⟨h1, _⟩ := Prod.mk.inj h
        obtain ⟨rfl, h2⟩ := Prod.mk.inj (Option.some.inj h1)
        obtain ⟨rfl, rfl⟩ := Prod.mk.inj h2
        unfold batGet at hf
        split at hf
        · cases hf
        · rename_i hz
          have hc := frameGet_cons s 20000 (by simpa using hz)
          split at hf
          · cases hf
          · split at hf
            · cases hf
            · rename_i x3 K3 c3 hp
              split at hf
              · cases hf
              · obtain ⟨h4, _⟩ := Prod.mk.inj hf
                obtain ⟨rfl, rfl⟩ := Prod.mk.inj (Option.some.inj h4)
                have h5 := batGetLoop_cons _ _ _ _ _ _ _ _ hp
                have h6 : (sN ((frameGet s 20000).1, false)).1.length ≤ (frameGet s 20000).1.length := nxt_len _ _
                refine ⟨by omega, by omega, by omega, h5.2.2⟩

/-- All that bytes tell: changes, the keys then, what is left, and whether it is torn. None: they are wrong. -/
def readLoop (g : Int) : Nat → List (List UInt8) → List UInt8 → Option (List Rc × List (List UInt8) × List UInt8 × Bool)
  | 0, K, s => some ([], K, s, false)
  | q + 1, K, s => if s = [] then some ([], K, s, false) else match getBy g K s with
    | (none, e) => if e = 2 then none else some ([], K, s, true)
    | (some (l, K', r), _) => match readLoop g q K' r with
      | none => none
      | some (l2, K2, r2, t) => some (l ++ l2, K2, r2, t)
structure Sg where
  gen : Int
  flags : Int
  recs : List Rc
  keys : List (List UInt8)
  used : Int
  torn : Bool
/-- What a segment tells; or an error. -/
def walRead (s : List UInt8) : Option Sg × Int :=
  match openB s magicB with
  | (g, f, r, e) => if e ≠ 0 then (none, e) else match readLoop g r.length [] r with
    | none => (none, 9)
    | some (l, K, r2, t) => (some ⟨g, f, l, K, (s.length : Int) - r2.length, t⟩, 0)
def behindR (Z : List Rc) : Option (List Rc × List (List UInt8) × List UInt8 × Bool) → Option (List Rc × List (List UInt8) × List UInt8 × Bool)
  | none => none
  | some (l, K, r, t) => some (Z ++ l, K, r, t)
theorem behindR_nil (x : Option (List Rc × List (List UInt8) × List UInt8 × Bool)) : behindR [] x = x := by
  cases x <;> rfl
theorem behindR_app (a b : List Rc) (x : Option (List Rc × List (List UInt8) × List UInt8 × Bool)) : behindR a (behindR b x) = behindR (a ++ b) x := by
  cases x with
  | none => rfl
  | some z => simp [behindR]
theorem openB_gen (s : List UInt8) (h : (openB s magicB).2.2.2 = 0) : 1 ≤ (openB s magicB).1 ∧ (openB s magicB).1 ≤ 3 ∧ (openB s magicB).2.1 ≤ 3 ∧ (openB s magicB).2.2.1 = s.drop 10 ∧ 10 ≤ s.length := by
  unfold openB at h ⊢
  split
  · rename_i h1
    rw [if_pos h1] at h
    cases h
  · rename_i h1
    rw [if_neg h1] at h
    split at h
    · cases h
    · rename_i b hb
      split at h
      · cases h
      · rename_i h2
        split at h
        · cases h
        · rename_i h3
          split at h
          · cases h
          · rename_i h4
            simp only [if_neg h2, if_neg h3, if_neg h4]
            have : magicB.length = 4 := rfl
            refine ⟨by omega, by omega, by omega, rfl, by omega⟩
theorem openB_err (s : List UInt8) : (openB s magicB).2.2.2 = 0 ∨ (openB s magicB).2.2.2 = 9 ∨ (openB s magicB).2.2.2 = 10 := by
  unfold openB
  split
  · exact .inr (.inl rfl)
  · split
    · exact .inr (.inl rfl)
    · split
      · exact .inr (.inl rfl)
      · split
        · exact .inr (.inr rfl)
        · split
          · exact .inr (.inl rfl)
          · exact .inl rfl

/-- What a coder's get answers. -/
def CGet (w : World) (B n m : Nat) (kv : Value) (s : List UInt8) (r : Option (List Rc × List (List UInt8) × List UInt8) × Int) (e : Ending) (w' : World) : Prop :=
  Below B w w' ∧ match r.1 with
    | none => e = .returned (.tuple #[.slice none 0 0, .string (bs s), .int .i64 r.2]) ∧ (r.2 = 2 ∨ (r.2 = 1 ∧ Below w.heap.size w w'))
    | some (l, K', rest) => ∃ v Z kv' D', e = .returned (.tuple #[v, .string (bs rest), .int .i64 0]) ∧ GotAt w' v Z ∧ Z.map (·.1) = l ∧ NamesIs w' B n K' kv' m D' ∧ Turn w w' (NF n m kv) (NF n m kv')
theorem fixGet_sh (s : List UInt8) (h : (fixGet s).1 = none) : (fixGet s).2 = 2 ∨ (fixGet s).2 = 1 := by
  unfold fixGet at *
  split
  · exact .inr rfl
  · rename_i h1
    rw [if_neg h1] at h
    split
    · exact .inl rfl
    · rename_i h2
      rw [if_neg h2] at h
      cases h
section
variable {w : World} {B n m : Nat} {K : List (List UInt8)} {kv : Value} {D : DataW Unit}
theorem cget1 (s : List UInt8) (h : NamesIs w B n K kv m D) (hl : s.length ≤ 1000000) (hB : B ≤ w.heap.size) :
    Calls Tryz.prog 71 #[.agg #[], .string (bs s)] w (CGet w B n m kv s (getBy 1 K s)) := by
  refine (fixed_get_any s w hl).mono ?_
  rintro e w' ⟨h1, hb⟩
  have hp : getBy 1 K s = match fixGet s with
    | (none, e) => (none, e)
    | (some x, e) => (some ([x], K, s.drop 186), e) := rfl
  have hs := fixGet_sh s
  unfold FixIs at h1
  rw [hp]
  rcases hf : fixGet s with ⟨r, e1⟩
  rw [hf] at h1 hs
  cases r with
  | none => exact ⟨hb.mono hB, h1, (hs rfl).imp id fun h => ⟨h, hb⟩⟩
  | some x =>
    obtain ⟨v, sl, rfl, hg⟩ := h1
    exact ⟨hb.mono hB, v, _, kv, D, rfl, hg, rfl, h.below hb, Turn.of_below hb⟩
theorem cget2 (s : List UInt8) (h : NamesIs w B n K kv m D) (hl : s.length ≤ 1000000) (hK : K.length ≤ 1000000) (hKl : ∀ k ∈ K, k.length ≤ 1000000) (hB : B ≤ w.heap.size) :
    Calls Tryz.prog 114 #[.agg #[.pointer (some ⟨n, 0, none⟩)], .string (bs s)] w (CGet w B n m kv s (getBy 2 K s)) := by
  refine (small_get_any s h hl (by omega) hKl hB).mono ?_
  rintro e w' ⟨hb, h1⟩
  have hp : getBy 2 K s = match smallGet K s with
    | (none, e) => (none, e)
    | (some (x, K'), e) => (some ([x], K', (frameGet s 20000).2.1), e) := rfl
  rw [hp]
  rcases hf : smallGet K s with ⟨r, e1⟩
  rw [hf] at h1
  cases r with
  | none => exact ⟨hb, h1⟩
  | some z =>
    obtain ⟨x, K'⟩ := z
    obtain ⟨v, sl, kv', D', rfl, hg, hn, ht⟩ := h1
    exact ⟨hb, v, _, kv', D', rfl, hg, rfl, hn, ht⟩
theorem cget3 (s : List UInt8) (h : NamesIs w B n K kv m D) (hl : s.length ≤ 1000000) (hK : K.length ≤ 1000000) (hKl : ∀ k ∈ K, k.length ≤ 1000000) (hB : B ≤ w.heap.size) :
    Calls Tryz.prog 125 #[.agg #[.pointer (some ⟨n, 0, none⟩)], .string (bs s)] w (CGet w B n m kv s (getBy 3 K s)) := by
  refine (batched_get_any s h hl hK hKl hB).mono ?_
  rintro e w' ⟨hb, h1⟩
  have hp : getBy 3 K s = match batGet K s with
    | (none, e) => (none, e)
    | (some (l, K'), e) => (some (l, K', (frameGet s 20000).2.1), e) := rfl
  rw [hp]
  rcases hf : batGet K s with ⟨r, e1⟩
  rw [hf] at h1
  cases r with
  | none => exact ⟨hb, h1⟩
  | some z =>
    obtain ⟨x, K'⟩ := z
    obtain ⟨v, Z, kv', D', rfl, hg, hz, hn, ht⟩ := h1
    exact ⟨hb, v, Z, kv', D', rfl, hg, hz, hn, ht⟩
end
theorem recsCells_get : ∀ (Z : List (Rc × Value)) (i : Nat) (z : Rc × Value), Z[i]? = some z → ∀ j u, (recCells z.1 z.2)[j]? = some u → (recsCells Z)[i * 5 + j]? = some u
  | [], i, z, h, _, _, _ => by simp at h
  | y :: Z, 0, z, h, j, u, hj => by
    obtain rfl : y = z := by simpa using h
    unfold recsCells
    rw [List.flatMap_cons, Nat.zero_mul, Nat.zero_add, List.getElem?_append_left, hj]
    exact (List.getElem?_eq_some_iff.1 hj).1
  | y :: Z, i + 1, z, h, j, u, hj => by
    have ih := recsCells_get Z i z (by simpa using h) j u hj
    unfold recsCells at *
    rw [List.flatMap_cons, show (i + 1) * 5 + j = 5 + (i * 5 + j) by omega, show 5 + (i * 5 + j) = (recCells y.1 y.2).length + (i * 5 + j) from rfl, List.getElem?_append_right (by omega), Nat.add_sub_cancel_left]
    exact ih
theorem recsAt_row {w : World} {B : Nat} {v : Value} {Z : List (Rc × Value)} (h : w.ownsRow B 51 5 v Z.length (recsCells Z)) (hn : Z.length ≤ 1048576) (hl : ∀ z ∈ Z, z.1.ok ∧ LabsOwn w z.2 z.1.labels) : RecsAt w v (Z.map (·.1)) := by
  have hcells : ∀ g, v.ownBlock = some g → ∀ j u, (recsCells Z)[j]? = some u → w.cell? ((⟨g, 0, none⟩ : Addr).add j) = some u := fun g hg => h.cells (g := g) hg
  rcases h.2 with ⟨e, e0⟩ | ⟨g, cap, cur, e, e1, e2, e3⟩
  · refine ⟨none, 0, by rw [e, List.length_map, e0], by rwa [List.length_map], fun i x hx => ?_⟩
    rw [List.length_eq_zero_iff.1 e0] at hx
    simp at hx
  · refine ⟨some ⟨g, 0, none⟩, cap, by rw [List.length_map]; exact e, by rwa [List.length_map], fun i x hx => ?_⟩
    rw [List.getElem?_map] at hx
    cases hz : Z[i]? with
    | none => rw [hz] at hx; cases hx
    | some z =>
      rw [hz] at hx
      obtain rfl : z.1 = x := by simpa using hx
      obtain ⟨hok, hL⟩ := hl z (List.mem_of_getElem? hz)
      have hc : ∀ j u, (recCells z.1 z.2)[j]? = some u → w.cell? ⟨g, 0 + i * 5 + j, none⟩ = some u := fun j u hj => by
        have := hcells g (by rw [e]; rfl) (i * 5 + j) u (recsCells_get Z i z hz j u hj)
        rw [addr_add] at this
        rw [show 0 + i * 5 + j = i * 5 + j by omega]
        exact this
      refine ⟨g, 0, rfl, hok, z.2, ?_, ?_, hL.1, ?_, ?_, ?_⟩
      · exact hc 0 _ rfl
      · exact hc 1 _ rfl
      · exact hc 2 _ rfl
      · exact hc 3 _ rfl
      · exact hc 4 _ rfl
end Go.Proofs.YtipdeiiipdnacaaGreat
namespace Go.Proofs.YtipdeiiipdnacaaGreat
open Go.RowKit Go.Maps Go.WideMaps
attribute [local go_sem] bs_toList bs_size

theorem cells6 {W : World} {b : Nat} {T : TypeId} {u0 u1 u2 u3 u4 u5 : Value} (h : Blk W b T #[u0, u1, u2, u3, u4, u5]) :
    (W.cell? ⟨b, 0, none⟩ = some u0 ∧ W.cell? ⟨b, 1, none⟩ = some u1 ∧ W.cell? ⟨b, 2, none⟩ = some u2 ∧ W.cell? ⟨b, 3, none⟩ = some u3 ∧ W.cell? ⟨b, 4, none⟩ = some u4 ∧ W.cell? ⟨b, 5, none⟩ = some u5) ∧
      W.frozen? ⟨b, 0, none⟩ = false ∧ W.frozen? ⟨b, 1, none⟩ = false ∧ W.frozen? ⟨b, 2, none⟩ = false ∧ W.frozen? ⟨b, 3, none⟩ = false ∧ W.frozen? ⟨b, 4, none⟩ = false ∧ W.frozen? ⟨b, 5, none⟩ = false :=
  ⟨⟨(Blk.cell h 0).trans rfl, (Blk.cell h 1).trans rfl, (Blk.cell h 2).trans rfl, (Blk.cell h 3).trans rfl, (Blk.cell h 4).trans rfl, (Blk.cell h 5).trans rfl⟩, Blk.frozen h 0, Blk.frozen h 1, Blk.frozen h 2, Blk.frozen h 3, Blk.frozen h 4, Blk.frozen h 5⟩
theorem recsCells_one {w : World} (Z : List (Rc × Value)) (h : ∀ z ∈ Z, z.1.ok ∧ LabsOwn w z.2 z.1.labels) : ∀ u ∈ recsCells Z, u.oneCell' = true := fun u hu => by
  unfold recsCells at hu
  obtain ⟨z, hz, hu⟩ := List.mem_flatMap.1 hu
  obtain ⟨a, c, e, _⟩ := (h z hz).2.1
  rw [e] at hu
  simp only [recCells, List.mem_cons, List.not_mem_nil, or_false] at hu
  rcases hu with rfl | rfl | rfl | rfl | rfl <;> rfl
theorem set6 {W : World} {b : Nat} {T : TypeId} {u0 u1 u2 u3 u4 u5 : Value} (h : Blk W b T #[u0, u1, u2, u3, u4, u5]) (v0 v1 v2 v3 v4 v5 : Value) :
    Blk ((((((W.setCell ⟨b, 0, none⟩ v0).setCell ⟨b, 1, none⟩ v1).setCell ⟨b, 2, none⟩ v2).setCell ⟨b, 3, none⟩ v3).setCell ⟨b, 4, none⟩ v4).setCell ⟨b, 5, none⟩ v5) b T #[v0, v1, v2, v3, v4, v5] ∧
      Kept W ((((((W.setCell ⟨b, 0, none⟩ v0).setCell ⟨b, 1, none⟩ v1).setCell ⟨b, 2, none⟩ v2).setCell ⟨b, 3, none⟩ v3).setCell ⟨b, 4, none⟩ v4).setCell ⟨b, 5, none⟩ v5) (fun k => k = b) :=
  ⟨Blk.set_ (Blk.set_ (Blk.set_ (Blk.set_ (Blk.set_ (Blk.set_ h 0 v0) 1 v1) 2 v2) 3 v3) 4 v4) 5 v5,
   Kept.of_grown (grown_trans' (grown_trans' (grown_trans' (grown_trans' (grown_trans' (grown_set _ _ _ _) (grown_set _ _ _ _)) (grown_set _ _ _ _)) (grown_set _ _ _ _)) (grown_set _ _ _ _)) (grown_set _ _ _ _)) fun _ e => (Option.some.inj e).symm⟩

theorem got_away {W : World} {p gx : Nat} {Z : List (Rc × Value)} {T : TypeId} {a0 a1 a2 a4 a5 : Value} {t : Bool} (hpc : ∀ j u, (recsCells Z)[j]? = some u → W.cell? ((⟨p, 0, none⟩ : Addr).add j) = some u) (hx : Blk W gx T #[a0, a1, a2, .bool t, a4, a5]) :
    ∀ (j : Nat) (u : Value), (recsCells Z)[j]? = some u → p ≠ gx := fun j u hj e => by
  cases Z with
  | nil => cases hj
  | cons z Z =>
    have := hpc 3 (.int .i64 z.1.u) rfl
    rw [addr_add, e] at this
    have := this.symm.trans (cells6 hx).1.2.2.2.1
    cases this
/-- What Read answers. -/
def ReadIs (s : List UInt8) (e : Ending) (w' : World) : Prop := match (walRead s).1 with
  | none => e = .returned (.tuple #[.agg #[.int .i64 0, .slice none 0 0, .int .i64 0, .bool false, .int .i64 0, .slice none 0 0], .int .i64 (walRead s).2])
  | some x => ∃ rv kv, e = .returned (.tuple #[.agg #[.int .i64 x.flags, rv, .int .i64 x.used, .bool x.torn, .int .i64 x.gen, kv], .int .i64 0]) ∧ RecsAt w' rv x.recs ∧ KeysAt w' kv x.keys
def strLen : Value → Nat
  | .string b => b.size
  | _ => 0
def tornAt (w : World) (g : Nat) : Nat := match w.cell? ⟨g, 3, none⟩ with
  | some (.bool true) => 0
  | _ => 1

set_option maxRecDepth 100000 in
set_option maxHeartbeats 8000000 in
theorem Read_any (s : List UInt8) (w : World) (hl : s.length ≤ 1000000) :
    Calls Tryz.prog 11 #[.string (bs s)] w fun e w' => ReadIs s e w' ∧ Below w.heap.size w w' := by
  have b0 := one_alloc w (.cells #[.int .i64 0, .slice none 0 0, .int .i64 0, .bool false, .int .i64 0, .slice none 0 0] 34)
  have k0 : Blk (w.alloc (.cells #[.int .i64 0, .slice none 0 0, .int .i64 0, .bool false, .int .i64 0, .slice none 0 0] 34)) w.heap.size 34 #[.int .i64 0, .slice none 0 0, .int .i64 0, .bool false, .int .i64 0, .slice none 0 0] := Blk.new _ _ _
  have q0 := Lib.hid (fun W => Open_any s magicB (by omega) (by decide) W)
  have hm : (⟨#[65, 87, 65, 76]⟩ : ByteArray) = bs magicB := rfl
  have hR0 : walRead s = match openB s magicB with
    | (g, f, r, e) => if e ≠ 0 then (none, e) else match readLoop g r.length [] r with
      | none => (none, 9)
      | some (l, K, r2, t) => (some ⟨g, f, l, K, (s.length : Int) - r2.length, t⟩, 0) := rfl
  have hgen := openB_gen s
  have HB := Lib.hid (show ∀ w' x, walRead s = (none, x) → Below w.heap.size w w' → ReadIs s (.returned (.tuple #[.agg #[.int .i64 0, .slice none 0 0, .int .i64 0, .bool false, .int .i64 0, .slice none 0 0], .int .i64 x])) w' ∧ Below w.heap.size w w' from fun w' x e hb => by
    unfold ReadIs
    rw [e]
    exact ⟨rfl, hb⟩)
  have HT := Lib.hid (show ∀ w' x rv kv, walRead s = (some x, 0) → Below w.heap.size w w' → RecsAt w' rv x.recs → KeysAt w' kv x.keys → ReadIs s (.returned (.tuple #[.agg #[.int .i64 x.flags, rv, .int .i64 x.used, .bool x.torn, .int .i64 x.gen, kv], .int .i64 0])) w' ∧ Below w.heap.size w w' from fun w' x rv kv e hb h1 h2 => by
    unfold ReadIs
    rw [e]
    exact ⟨⟨rv, kv, rfl, h1, h2⟩, hb⟩)
  generalize walRead s = R at *
  rcases hop : openB s magicB with ⟨g, f, r0, e0⟩
  rw [hop] at q0 hR0 hgen
  rw [show openV (g, f, r0, e0) = .tuple #[.int .i64 (g : Int), .int .i64 (f : Int), .string (bs r0), .int .i64 e0] from rfl] at q0
  simp only at hR0 hgen
  clear hop
  by_cases he : e0 = 0
  · subst he
    rw [if_neg (by simp)] at hR0
    obtain ⟨hg1, hg3, hf3, hr0, hs10⟩ := hgen rfl
    have hr0l : r0.length + 10 ≤ s.length := by rw [hr0, List.length_drop]; omega
    have HR := Lib.hid hR0
    clear hR0 hgen hr0
    go_enter Tryz.func11, Tryz.ntmps11
    go_wp2_with fail
    refine (q0.out _).mono ?_
    rintro e W1 ⟨rfl, hb1⟩
    have k1 := Blk.below k0 hb1 k0.lt
    have hbw1 := b0.trans (hb1.mono b0.size)
    have qo := Lib.hid (of_any 0 (.slice none 0 0) [] W1 ⟨none, 0, rfl, by simp, fun i x hx => by simp at hx⟩)
    rw [show writerV 0 (.slice none 0 0) = .agg #[.int .i64 0, .slice none 0 0] from rfl] at qo
    clear k0 b0 hb1 q0
    go_wp2_with fail
    refine qo.out.mono ?_
    rintro e W2 ⟨n, m, kv, D, rfl, hN, hb2⟩
    have k2 := Blk.below k1 hb2 k1.lt
    have hbw2 := hbw1.trans (hb2.mono hbw1.size)
    have qc := Lib.hid (fun W => coderOf_any (g : Int) n W)
    have hB2 := hb2.size
    have hBw := k1.lt
    clear k1 hb2 qo
    generalize W1.heap.size = B at *
    go_wp2_with fail
    refine (qc.out _).mono ?_
    rintro e _ ⟨rfl, rfl⟩
    have kx : Blk (W2.alloc (.cells #[.int .i64 (f : Int), .slice none 0 0, .int .i64 0, .bool false, .int .i64 0, .slice none 0 0] 34)) W2.heap.size 34 #[.int .i64 (f : Int), .slice none 0 0, .int .i64 0, .bool false, .int .i64 0, .slice none 0 0] := Blk.new _ _ _
    have hb3 := one_alloc W2 (.cells #[.int .i64 (f : Int), .slice none 0 0, .int .i64 0, .bool false, .int .i64 0, .slice none 0 0] 34)
    have hlk := k2.lt
    clear qc
    go_wp2_with fail
    generalize W2.alloc (.cells #[.int .i64 (f : Int), .slice none 0 0, .int .i64 0, .bool false, .int .i64 0, .slice none 0 0] 34) = W3 at *
    have k3 := Blk.below k2 hb3 hlk
    have hN3 := hN.below hb3
    have hbw3 := hbw2.trans (hb3.mono hbw2.size)
    have hB3 : B ≤ W3.heap.size := Nat.le_trans hB2 hb3.size
    clear k2 hN hbw2 hb3
    generalize W2.heap.size = gx at *
    have hrow0 : W3.ownsRow w.heap.size 51 5 (.slice none 0 0) ([] : List (Rc × Value)).length (recsCells []) := World.ownsRow_nil _ _ _ _
    generalize hwb : w.heap.size = bw at *
    go_loopw [6] (fun v6 wr => ∃ (r : List UInt8) (Z : List (Rc × Value)) (Ki : List (List UInt8)) (kvi : Value) (Di : DataW Unit) (t : Bool) (rv : Value), v6 = .string (bs r) ∧ r.length ≤ r0.length ∧
        (if t then readLoop g r0.length [] r0 = some (Z.map (·.1), Ki, r, true) else ∃ q, r.length ≤ q ∧ readLoop g r0.length [] r0 = behindR (Z.map (·.1)) (readLoop g q Ki r)) ∧
        NamesIs wr B n Ki kvi m Di ∧ Ki.length + r.length ≤ r0.length ∧ Z.length + r.length ≤ r0.length ∧ (∀ k ∈ Ki, k.length ≤ 600) ∧
        Blk wr gx 34 #[.int .i64 (f : Int), rv, .int .i64 0, .bool t, .int .i64 0, .slice none 0 0] ∧ wr.ownsRow bw 51 5 rv Z.length (recsCells Z) ∧
        (∀ z ∈ Z, z.1.ok ∧ LabsOwn wr z.2 z.1.labels) ∧ Blk wr bw 34 #[.int .i64 0, .slice none 0 0, .int .i64 0, .bool false, .int .i64 0, .slice none 0 0] ∧ B ≤ wr.heap.size ∧ Below bw w wr) (fun v6 wr => strLen v6 * 2 + tornAt wr gx)
    case atStart =>
      refine ⟨r0, [], [], kv, D, false, .slice none 0 0, rfl, Nat.le_refl _, ?_, hN3, by simp, by simp, by simp, kx, hrow0, by simp, k3, hB3, hbw3⟩
      exact ⟨r0.length, Nat.le_refl _, (behindR_nil _).symm⟩
    clear hN3 hrow0 k3 kx hB3 hbw3 hB2 hbw1
    obtain ⟨r, Z, Ki, kvi, Di, t, rv, rfl, hrl, hP, hN, hKi, hZl, hKil, hx, hrow, hZ, hk, hB, hbw⟩ := hrel
    obtain ⟨⟨c0, c1, c2, c3, c4, c5⟩, f0, f1, f2, f3, f4, f5⟩ := cells6 hx
    have hxn := nf_tag hN (tag_blk hx) (by decide) (by decide)
    have hkn := nf_tag hN (tag_blk hk) (by decide) (by decide)
    have HQ : (r = [] ∨ t = true) → readLoop g r0.length [] r0 = some (Z.map (·.1), Ki, r, t) := fun h => by
      cases t with
      | true => exact hP
      | false =>
        have hre : r = [] := h.resolve_right (by simp)
        obtain ⟨q, _, hq⟩ := hP
        rw [hq, hre]
        cases q with
        | zero => simp [readLoop, behindR]
        | succ q => simp [readLoop, behindR]
    have hxk : gx ≠ bw := by omega
    have hrv : ∃ a c, rv = .slice a Z.length c := row_form hrow
    by_cases hend : r = [] ∨ t = true
    · have hF : R = (some ⟨g, f, Z.map (·.1), Ki, (s.length : Int) - r.length, t⟩, 0) := by rw [HR.out, HQ hend]
      have hF := Lib.hid hF
      obtain ⟨na, nc, rfl⟩ := hN.form
      have n0 := (cells2 hN.blk).1.1
      have hwl : IntKind.i64.wrap ((s.length : Int) - (r.length : Int)) = (s.length : Int) - (r.length : Int) := by simp [IntKind.wrap, IntKind.bits, IntKind.signed]; omega
      have hs1 := Blk.set_ hx 2 (.int .i64 ((s.length : Int) - (r.length : Int)))
      have hs2 := Blk.set_ (Blk.set_ hs1 4 (.int .i64 (g : Int))) 5 (.slice na Ki.length nc)
      have hk1 : Kept wr (wr.setCell ⟨gx, 2, none⟩ (.int .i64 ((s.length : Int) - (r.length : Int)))) (fun k => k = gx) := Kept.of_grown (grown_set _ _ _ _) fun _ e => (Option.some.inj e).symm
      have hk2 : Kept wr (((wr.setCell ⟨gx, 2, none⟩ (.int .i64 ((s.length : Int) - (r.length : Int)))).setCell ⟨gx, 4, none⟩ (.int .i64 (g : Int))).setCell ⟨gx, 5, none⟩ (.slice na Ki.length nc)) (fun k => k = gx) := hk1.trans ((Kept.of_grown (grown_set _ _ _ _) fun _ e => (Option.some.inj e).symm).trans (Kept.of_grown (grown_set _ _ _ _) fun _ e => (Option.some.inj e).symm))
      have kb4 := hk.keptK hk2 (by omega)
      have n1 := hk1.cell n0 (fun (e : n = gx) => hxn (.inl e.symm))
      obtain ⟨⟨y0, y1, y2, y3, y4, y5⟩, g0, g1, g2, g3', g4, g5⟩ := cells6 hs1
      obtain ⟨⟨x0, x1, x2, x3, x4, x5⟩, _⟩ := cells6 hs2
      obtain ⟨⟨d0, d1, d2, d3, d4, d5⟩, e0, e1, e2, e3, e4, e5⟩ := cells6 kb4
      have hs3 := set6 kb4 (.int .i64 (f : Int)) rv (.int .i64 ((s.length : Int) - (r.length : Int))) (.bool t) (.int .i64 (g : Int)) (.slice na Ki.length nc)
      have hk5 := (hk2.weaken (T := fun k => k = gx ∨ k = bw) (fun _ e => .inl e)).trans (hs3.2.weaken (fun _ e => .inr e))
      have hnS : ∀ k, (k = gx ∨ k = bw) → tag wr k = some (some 34) := fun k hk' => by
        rcases hk' with rfl | rfl
        · exact tag_blk hx
        · exact tag_blk hk
      have hRA := recsAt_row (ownsRow_kept hrow hk5 (fun b hb e => by have := hnS b e; rw [tag_row hrow hb] at this; simp at this)) (by omega) (fun z hz => ⟨(hZ z hz).1, (hZ z hz).2.kept hk5 (fun b hb e => by have := hnS b e; rw [hb] at this; simp at this)⟩)
      have hKA := keysAt_row (ownsRow_kept hN.row hk5 (fun b hb e => nf_tag hN (hnS b e) (by decide) (by decide) (.inr (.inr hb)))) (by omega) (fun x hx => by have := hKil x hx; omega)
      have HE := Lib.hid (HT.out _ _ rv (.slice na Ki.length nc) hF.out (hbw.trans (Kept.below hk5 (by omega) (fun k hk => by omega))) hRA hKA)
      clear HT HB HR HQ hP hRA hKA hk1 hk2 hs1 hs2 hnS hk5 hN hx hk hrow hZ n0 hF
      obtain ⟨rva, rvc, rfl⟩ := hrv
      cases hre : r.isEmpty with
      | true =>
        go_wp2_with fail
        (try simp only [Exit.inBlock, Exit.then])
        refine bodyPost_ret (results_ct rfl _ _ bw 34 _ _ rfl hs3.1 Tryz.underlying34 rfl (by kernel_rfl)) rfl ?_
        exact HE.out
      | false =>
        have htt : t = true := hend.resolve_left (fun e => by rw [e] at hre; cases hre)
        subst htt
        go_wp2_with fail
        (try simp only [Exit.inBlock, Exit.then])
        refine bodyPost_ret (results_ct rfl _ _ bw 34 _ _ rfl hs3.1 Tryz.underlying34 rfl (by kernel_rfl)) rfl ?_
        exact HE.out
    · have htf : t = false := by
        cases t with
        | true => exact absurd (.inr rfl) hend
        | false => rfl
      subst htf
      have hrne : r ≠ [] := fun e => hend (.inl e)
      have hre : r.isEmpty = false := by cases r with
        | nil => exact absurd rfl hrne
        | cons => rfl
      obtain ⟨q, hq, hP⟩ := hP
      have hq0 : q ≠ 0 := fun e => hrne (List.length_eq_zero_iff.1 (by omega))
      obtain ⟨q, rfl⟩ := Nat.exists_eq_succ_of_ne_zero hq0
      have HP1 := Lib.hid (show readLoop g r0.length [] r0 = behindR (Z.map (·.1)) (match getBy g Ki r with
        | (none, e) => if e = 2 then none else some ([], Ki, r, true)
        | (some (l, K', r2), _) => match readLoop g q K' r2 with
          | none => none
          | some (l2, K2, r3, t) => some (l ++ l2, K2, r3, t)) by
        rw [hP, readLoop, if_neg hrne]
        try rfl)
      clear hP HQ hend hrne
      obtain ⟨rva, rvc, rfl⟩ := hrv
      have h123 : g = 1 ∨ g = 2 ∨ g = 3 := by omega
      have hrl2 : r.length ≤ 1000000 := by omega
      have hKb : Ki.length ≤ 1000000 := by omega
      have hKlb : ∀ k ∈ Ki, k.length ≤ 1000000 := fun k hk => by have := hKil k hk; omega
      rcases h123 with h1 | h1 | h1
      · have hc : coderV (g : Int) n = .iface 78 (.agg #[]) := by rw [h1]; rfl
        have q4 := Lib.hid (show Calls Tryz.prog 71 #[.agg #[], .string (bs r)] wr (CGet wr B n m kvi r (getBy (g : Int) Ki r)) by rw [h1]; exact cget1 r hN hrl2 hB)
        rw [hc]
        clear hc h1
        go_wp2_with fail
        refine q4.out.mono ?_
        clear q4
        rintro e W5 ⟨hbB5, hpost⟩
        have hcons := getBy_cons (g : Int) Ki r
        have HP2 := HP1.out
        rcases hgb : getBy (g : Int) Ki r with ⟨x, sh⟩
        rw [hgb] at HP2 hpost hcons
        have hxt := tag_blk hx
        have hc3 := (cells6 hx).1.2.2.2.1
        have hxr : ∀ k, (Value.slice rva Z.length rvc).ownBlock = some k → tag wr k = some (some 51) := fun k hk' => tag_row hrow hk'
        have hlo : ∀ k, (Value.slice rva Z.length rvc).ownBlock = some k → bw ≤ k := fun k hk' => (hrow.lt k hk').1
        have hbwW : bw ≤ wr.heap.size := by omega
        have hb5s := hbB5.size
        have hbw5 := hbw.trans (hbB5.mono (Nat.le_of_lt hBw))
        have hk5 := Blk.below hk hbB5 hBw
        clear HP1 c0 c1 c2 c3 c4 c5 f0 f1 f2 f3 f4 f5
        cases x with
        | none =>
          obtain ⟨rfl, hsh⟩ := hpost
          rcases hsh with hsh | ⟨hsh, hb5⟩
          · simp only at hsh
            subst hsh
            have hF : R = (none, 9) := by rw [HR.out, HP2]; rfl
            have HE := Lib.hid (fun w' => HB.out w' 9 hF)
            obtain ⟨⟨d0, d1, d2, d3, d4, d5⟩, g0, g1, g2, g3', g4, g5⟩ := cells6 hk5
            have hs3 := set6 hk5 (.int .i64 0) (.slice none 0 0) (.int .i64 0) (.bool false) (.int .i64 0) (.slice none 0 0)
            clear HP2 hF HB HT HR hgb hcons
            go_wp2_with fail
            (try simp only [Exit.inBlock, Exit.then])
            refine bodyPost_ret (results_ct rfl _ _ bw 34 _ _ rfl hs3.1 Tryz.underlying34 rfl (by kernel_rfl)) rfl ?_
            subst hwb
            exact HE.out _ (hbw5.trans (Kept.below hs3.2 (Nat.le_trans hbwW hb5s) (fun k hk => by omega)))
          · simp only at hsh
            subst hsh
            have HP3 := Lib.hid (show readLoop g r0.length [] r0 = some (Z.map (·.1), Ki, r, true) by rw [HP2]; simp [behindR])
            have hx5 := Blk.below hx hb5 hx.lt
            have hN5 := hN.below hb5
            have hrow5 := ownsRow_kept hrow (Kept.of_below (S := fun _ => False) hb5) (fun _ _ e => e)
            have hZ5 : ∀ z ∈ Z, z.1.ok ∧ LabsOwn W5 z.2 z.1.labels := fun z hz => ⟨(hZ z hz).1, (hZ z hz).2.below hb5⟩
            have hk6 : Kept W5 (W5.setCell ⟨gx, 3, none⟩ (.bool true)) (fun k => k = gx) := Kept.of_grown (grown_set _ _ _ _) fun _ e => (Option.some.inj e).symm
            have hx6 := Blk.set_ hx5 3 (.bool true)
            have hx5r : ∀ k, (Value.slice rva Z.length rvc).ownBlock = some k → k ≠ gx := fun k hk' e => by have := hxr k hk'; rw [e, hxt] at this; simp at this
            have hrow6 := ownsRow_kept hrow5 hk6 (fun b hb e => hx5r b hb e)
            have hx7 := Blk.set_ hx6 1 (.slice rva Z.length rvc)
            have hk7 : Kept W5 ((W5.setCell ⟨gx, 3, none⟩ (.bool true)).setCell ⟨gx, 1, none⟩ (.slice rva Z.length rvc)) (fun k => k = gx) := hk6.trans (Kept.of_grown (grown_set _ _ _ _) fun _ e => (Option.some.inj e).symm)
            have hrow7 := ownsRow_kept hrow5 hk7 (fun b hb e => hx5r b hb e)
            have hN7 := hN5.kept hk7 (fun k hk e => by rw [e] at hk; exact hxn hk)
            have hZ7 : ∀ z ∈ Z, z.1.ok ∧ LabsOwn ((W5.setCell ⟨gx, 3, none⟩ (.bool true)).setCell ⟨gx, 1, none⟩ (.slice rva Z.length rvc)) z.2 z.1.labels := fun z hz => ⟨(hZ5 z hz).1, (hZ5 z hz).2.kept hk7 (fun b hb e => by have := tag_blk hx5; rw [← e, hb] at this; simp at this)⟩
            have hkk := hk5.keptK hk7 (by omega)
            have hbw7 := hbw5.trans (Kept.below hk7 (by have := hb5.size; omega) (fun k hk => by omega))
            obtain ⟨⟨d0, d1, d2, d3, d4, d5⟩, g0, g1, g2, g3', g4, g5⟩ := cells6 hx5
            obtain ⟨⟨d0', d1', d2', d3', d4', d5'⟩, g0', g1', g2', g3'', g4', g5'⟩ := cells6 hx6
            have ⟨i0, hin, _⟩ := info_parts (show (Tryz.prog.info? 51).map (fun i => (i.zero, i.size, i.bytes)) = some (some (.agg #[.int .i64 0, .slice none 0 0, .int .i64 0, .int .i64 0, .int .u64 0]), 5, 56) by kernel_rfl)
            have hB7 : B ≤ ((W5.setCell ⟨gx, 3, none⟩ (.bool true)).setCell ⟨gx, 1, none⟩ (.slice rva Z.length rvc)).heap.size := Nat.le_trans hB (Nat.le_trans hb5.size hk7.size)
            clear HP2 HB HT HR hgb hcons hk6 hrow5 hN hZ hZ5 hN5 hrow hk hk5 hx hbw hbw5 hb5 hk7
            go_wp2_with (at_builtin; refine wpList_append_own_none rfl _ _ 25 rfl bw 51 i0 5 Tryz.underlying25 hin _ _ _ rfl hrow6 rfl ?_)
            go_roundw
            case rel =>
              refine ⟨r, Z, Ki, kvi, Di, true, .slice rva Z.length rvc, rfl, hrl, ?_, hN7, hKi, hZl, hKil, hx7, hrow7, hZ7, hkk, hB7, ?_⟩
              · exact HP3.out
              · subst hwb
                exact hbw7
            case measure =>
              have t1 : tornAt wr gx = 1 := by unfold tornAt; rw [hc3]
              have t2 : tornAt ((W5.setCell ⟨gx, 3, none⟩ (.bool true)).setCell ⟨gx, 1, none⟩ (.slice rva Z.length rvc)) gx = 0 := by
                unfold tornAt
                rw [(cells6 hx7).1.2.2.2.1]
              rw [t1, t2]
              omega
        | some z =>
          obtain ⟨l, K', rest⟩ := z
          obtain ⟨v, Z2, kv2, D2, rfl, hg, hZ2, hN5, hT5⟩ := hpost
          obtain ⟨h4, h5, h6, h7⟩ := hcons l K' rest sh rfl
          subst hZ2
          rw [List.length_map] at h5
          obtain ⟨⟨p, pc, rfl, hpc⟩, hZok⟩ := hg
          dsimp only at HP2
          have HP3 := Lib.hid (show ∃ q, rest.length ≤ q ∧ readLoop g r0.length [] r0 = behindR ((Z ++ Z2).map (·.1)) (readLoop g q K' rest) from ⟨q, by omega, by
            rw [HP2, List.map_append, ← behindR_app]
            cases readLoop g q K' rest <;> rfl⟩)
          have hx5 := hx.keptK hT5.kept hxn
          have hrow5 := ownsRow_kept hrow hT5.kept (fun b hb e => nf_tag hN (hxr b hb) (by decide) (by decide) e)
          have hZ5 : ∀ z ∈ Z, z.1.ok ∧ LabsOwn W5 z.2 z.1.labels := fun z hz => ⟨(hZ z hz).1, (hZ z hz).2.kept hT5.kept (fun b hb e => nf_tag hN hb (by decide) (by decide) e)⟩
          have hk6 : Kept W5 (W5.setCell ⟨gx, 3, none⟩ (.bool false)) (fun k => k = gx) := Kept.of_grown (grown_set _ _ _ _) fun _ e => (Option.some.inj e).symm
          have hx6 := Blk.set_ hx5 3 (.bool false)
          have hxt5 := tag_blk hx5
          have hxt6 := tag_blk hx6
          have hrow6 := ownsRow_kept hrow5 hk6 (fun b hb e => by have := tag_row hrow5 hb; rw [e, hxt5] at this; simp at this)
          have hN6 := hN5.kept hk6 (fun k hk' e => by rw [e] at hk'; exact nf_tag hN5 hxt5 (by decide) (by decide) hk')
          have hLx : ∀ (z : Rc × Value), z.1.ok ∧ LabsOwn W5 z.2 z.1.labels → z.1.ok ∧ LabsOwn (W5.setCell ⟨gx, 3, none⟩ (.bool false)) z.2 z.1.labels := fun z hz => ⟨hz.1, hz.2.kept hk6 (fun b hb e => by rw [e, hxt5] at hb; simp at hb)⟩
          have hZ6 : ∀ z ∈ Z ++ Z2, z.1.ok ∧ LabsOwn (W5.setCell ⟨gx, 3, none⟩ (.bool false)) z.2 z.1.labels := fun z hz => hLx z ((List.mem_append.1 hz).elim (hZ5 z) (hZok z))
          have hkb6 := hk5.keptK hk6 (by omega)
          have hbw6 := hbw5.trans (Kept.below hk6 (by omega) (fun k hk => by omega))
          have hB6 : B ≤ (W5.setCell ⟨gx, 3, none⟩ (.bool false)).heap.size := Nat.le_trans hB (Nat.le_trans hb5s hk6.size)
          have hpx := got_away hpc hx5
          have hpc6 : ∀ j u, (recsCells Z2)[j]? = some u → (W5.setCell ⟨gx, 3, none⟩ (.bool false)).cell? ((⟨p, 0, none⟩ : Addr).add j) = some u := fun j u hj => hk6.cell (hpc j u hj) (fun e => hpx j u hj (by rw [addr_add] at e; exact e))
          have hx6r : ∀ k, (Value.slice rva Z.length rvc).ownBlock = some k → k ≠ gx := fun k hk' e => by have := tag_row hrow6 hk'; rw [e, hxt6] at this; simp at this
          have HK8 := Lib.hid (show ∀ w8, (W5.setCell ⟨gx, 3, none⟩ (.bool false)).grownBy w8 (Value.slice rva Z.length rvc).ownBlock → Kept (W5.setCell ⟨gx, 3, none⟩ (.bool false)) w8 (fun k => (Value.slice rva Z.length rvc).ownBlock = some k) from fun w8 h => Kept.of_grown h fun k e => e)
          have hk6s := hk6.size
          have H1 := Lib.hid (recsCells_one Z2 hZok)
          obtain ⟨⟨d0, d1, d2, d3, d4, d5⟩, g0, g1, g2, g3', g4, g5⟩ := cells6 hx5
          obtain ⟨⟨d0', d1', d2', d3', d4', d5'⟩, g0', g1', g2', g3'', g4', g5'⟩ := cells6 hx6
          have ⟨i0, hin, hz0, hz1, hz2⟩ := info_parts (show (Tryz.prog.info? 51).map (fun i => (i.zero, i.size, i.bytes)) = some (some (.agg #[.int .i64 0, .slice none 0 0, .int .i64 0, .int .i64 0, .int .u64 0]), 5, 56) by kernel_rfl)
          clear HP2 HB HT HR hgb hcons hrow5 hN hZ hZ5 hN5 hrow hk hk5 hx hbw hbw5 hk6 hZok hLx hT5
          go_wp2_with (at_builtin; refine wpList_append_own_at _ rfl _ _ 25 rfl bw 51 i0 (.agg #[.int .i64 0, .slice none 0 0, .int .i64 0, .int .i64 0, .int .u64 0]) 5 56 Tryz.underlying25 hin hz0 hz1 hz2 rfl (by decide) _ _ _ rfl hrow6 ⟨p, 0, none⟩ Z2.length pc (recsCells Z2) rfl (recsCells_len _) hpc6 H1.out (by unfold maxLen; omega) (by omega) (by omega) ?_; intro v' w8 hown' hgrow hnil hloc; obtain ⟨va', vc', rfl⟩ := row_form hown'; have hk8 := HK8.out w8 hgrow; have hx8 := hx6.keptK hk8 (fun e => hx6r gx e rfl); obtain ⟨⟨z0, z1, z2, z3, z4, z5⟩, y0, y1, y2, y3, y4, y5⟩ := cells6 hx8)
          have hw8r : ∀ k, (Value.slice va' (Z.length + Z2.length) vc').ownBlock = some k → k ≠ gx := fun k hk' e => by have h1 := tag_row hown' hk'; rw [e, tag_blk hx8] at h1; simp at h1
          have hk9 : Kept w8 (w8.setCell ⟨gx, 1, none⟩ (.slice va' (Z.length + Z2.length) vc')) (fun k => k = gx) := Kept.of_grown (grown_set _ _ _ _) fun _ e => (Option.some.inj e).symm
          have hx9 := Blk.set_ hx8 1 (.slice va' (Z.length + Z2.length) vc')
          have hrow9 := ownsRow_kept hown' hk9 (fun b hb e => hw8r b hb e)
          have hk69 := (hk8.weaken (T := fun k => (Value.slice rva Z.length rvc).ownBlock = some k ∨ k = gx) (fun _ e => .inl e)).trans (hk9.weaken (fun _ e => .inr e))
          have hrt : ∀ k, ((Value.slice rva Z.length rvc).ownBlock = some k ∨ k = gx) → tag (W5.setCell ⟨gx, 3, none⟩ (.bool false)) k = some (some 51) ∨ tag (W5.setCell ⟨gx, 3, none⟩ (.bool false)) k = some (some 34) := fun k hk' => hk'.imp (fun h => tag_row hrow6 h) (fun h => by rw [h]; exact hxt6)
          have hN9 := hN6.kept hk69 (fun k hk' e => (hrt k e).elim (fun t => nf_tag hN6 t (by decide) (by decide) hk') (fun t => nf_tag hN6 t (by decide) (by decide) hk'))
          have hZ9 : ∀ z ∈ Z ++ Z2, z.1.ok ∧ LabsOwn (w8.setCell ⟨gx, 1, none⟩ (.slice va' (Z.length + Z2.length) vc')) z.2 z.1.labels := fun z hz => ⟨(hZ6 z hz).1, (hZ6 z hz).2.kept hk69 (fun b hb e => by rcases hrt b e with t | t <;> (rw [hb] at t; simp at t))⟩
          have hkb9 := hkb6.keptK hk69 (fun e => by rcases e with e | e; (have := tag_row hrow6 e; rw [tag_blk hkb6] at this; simp at this); omega)
          have hbw9 := hbw6.trans (Kept.below hk69 (by have := hk6s; omega) (fun k hk' => hk'.elim (hlo k) (fun e => by omega)))
          have hrec : recsCells (Z ++ Z2) = recsCells Z ++ recsCells Z2 := by unfold recsCells; rw [List.flatMap_append]
          refine ⟨⟨rest, Z ++ Z2, K', kv2, D2, false, .slice va' (Z.length + Z2.length) vc', rfl, by omega, ?_, hN9, by omega, by rw [List.length_append]; omega, fun k hk' => (h7 k hk').elim (hKil k) id, hx9, ?_, hZ9, hkb9, Nat.le_trans hB6 hk69.size, ?_⟩, ?_⟩
          · exact HP3.out
          · rw [List.length_append, hrec]
            exact hrow9
          · subst hwb
            exact hbw9
          · have t1 : tornAt wr gx = 1 := by unfold tornAt; rw [hc3]
            have t2 : tornAt (w8.setCell ⟨gx, 1, none⟩ (.slice va' (Z.length + Z2.length) vc')) gx = 1 := by
              unfold tornAt
              rw [(cells6 hx9).1.2.2.2.1]
            rw [t1, t2]
            simp only [strLen, bs_size]
            omega
      · have hc : coderV (g : Int) n = .iface 80 (.agg #[.pointer (some ⟨n, 0, none⟩)]) := by rw [h1]; rfl
        have q4 := Lib.hid (show Calls Tryz.prog 114 #[.agg #[.pointer (some ⟨n, 0, none⟩)], .string (bs r)] wr (CGet wr B n m kvi r (getBy (g : Int) Ki r)) by rw [h1]; exact cget2 r hN hrl2 hKb hKlb hB)
        rw [hc]
        clear hc h1
        go_wp2_with fail
        refine q4.out.mono ?_
        clear q4
        rintro e W5 ⟨hbB5, hpost⟩
        have hcons := getBy_cons (g : Int) Ki r
        have HP2 := HP1.out
        rcases hgb : getBy (g : Int) Ki r with ⟨x, sh⟩
        rw [hgb] at HP2 hpost hcons
        have hxt := tag_blk hx
        have hc3 := (cells6 hx).1.2.2.2.1
        have hxr : ∀ k, (Value.slice rva Z.length rvc).ownBlock = some k → tag wr k = some (some 51) := fun k hk' => tag_row hrow hk'
        have hlo : ∀ k, (Value.slice rva Z.length rvc).ownBlock = some k → bw ≤ k := fun k hk' => (hrow.lt k hk').1
        have hbwW : bw ≤ wr.heap.size := by omega
        have hb5s := hbB5.size
        have hbw5 := hbw.trans (hbB5.mono (Nat.le_of_lt hBw))
        have hk5 := Blk.below hk hbB5 hBw
        clear HP1 c0 c1 c2 c3 c4 c5 f0 f1 f2 f3 f4 f5
        cases x with
        | none =>
          obtain ⟨rfl, hsh⟩ := hpost
          rcases hsh with hsh | ⟨hsh, hb5⟩
          · simp only at hsh
            subst hsh
            have hF : R = (none, 9) := by rw [HR.out, HP2]; rfl
            have HE := Lib.hid (fun w' => HB.out w' 9 hF)
            obtain ⟨⟨d0, d1, d2, d3, d4, d5⟩, g0, g1, g2, g3', g4, g5⟩ := cells6 hk5
            have hs3 := set6 hk5 (.int .i64 0) (.slice none 0 0) (.int .i64 0) (.bool false) (.int .i64 0) (.slice none 0 0)
            clear HP2 hF HB HT HR hgb hcons
            go_wp2_with fail
            (try simp only [Exit.inBlock, Exit.then])
            refine bodyPost_ret (results_ct rfl _ _ bw 34 _ _ rfl hs3.1 Tryz.underlying34 rfl (by kernel_rfl)) rfl ?_
            subst hwb
            exact HE.out _ (hbw5.trans (Kept.below hs3.2 (Nat.le_trans hbwW hb5s) (fun k hk => by omega)))
          · simp only at hsh
            subst hsh
            have HP3 := Lib.hid (show readLoop g r0.length [] r0 = some (Z.map (·.1), Ki, r, true) by rw [HP2]; simp [behindR])
            have hx5 := Blk.below hx hb5 hx.lt
            have hN5 := hN.below hb5
            have hrow5 := ownsRow_kept hrow (Kept.of_below (S := fun _ => False) hb5) (fun _ _ e => e)
            have hZ5 : ∀ z ∈ Z, z.1.ok ∧ LabsOwn W5 z.2 z.1.labels := fun z hz => ⟨(hZ z hz).1, (hZ z hz).2.below hb5⟩
            have hk6 : Kept W5 (W5.setCell ⟨gx, 3, none⟩ (.bool true)) (fun k => k = gx) := Kept.of_grown (grown_set _ _ _ _) fun _ e => (Option.some.inj e).symm
            have hx6 := Blk.set_ hx5 3 (.bool true)
            have hx5r : ∀ k, (Value.slice rva Z.length rvc).ownBlock = some k → k ≠ gx := fun k hk' e => by have := hxr k hk'; rw [e, hxt] at this; simp at this
            have hrow6 := ownsRow_kept hrow5 hk6 (fun b hb e => hx5r b hb e)
            have hx7 := Blk.set_ hx6 1 (.slice rva Z.length rvc)
            have hk7 : Kept W5 ((W5.setCell ⟨gx, 3, none⟩ (.bool true)).setCell ⟨gx, 1, none⟩ (.slice rva Z.length rvc)) (fun k => k = gx) := hk6.trans (Kept.of_grown (grown_set _ _ _ _) fun _ e => (Option.some.inj e).symm)
            have hrow7 := ownsRow_kept hrow5 hk7 (fun b hb e => hx5r b hb e)
            have hN7 := hN5.kept hk7 (fun k hk e => by rw [e] at hk; exact hxn hk)
            have hZ7 : ∀ z ∈ Z, z.1.ok ∧ LabsOwn ((W5.setCell ⟨gx, 3, none⟩ (.bool true)).setCell ⟨gx, 1, none⟩ (.slice rva Z.length rvc)) z.2 z.1.labels := fun z hz => ⟨(hZ5 z hz).1, (hZ5 z hz).2.kept hk7 (fun b hb e => by have := tag_blk hx5; rw [← e, hb] at this; simp at this)⟩
            have hkk := hk5.keptK hk7 (by omega)
            have hbw7 := hbw5.trans (Kept.below hk7 (by have := hb5.size; omega) (fun k hk => by omega))
            obtain ⟨⟨d0, d1, d2, d3, d4, d5⟩, g0, g1, g2, g3', g4, g5⟩ := cells6 hx5
            obtain ⟨⟨d0', d1', d2', d3', d4', d5'⟩, g0', g1', g2', g3'', g4', g5'⟩ := cells6 hx6
            have ⟨i0, hin, _⟩ := info_parts (show (Tryz.prog.info? 51).map (fun i => (i.zero, i.size, i.bytes)) = some (some (.agg #[.int .i64 0, .slice none 0 0, .int .i64 0, .int .i64 0, .int .u64 0]), 5, 56) by kernel_rfl)
            have hB7 : B ≤ ((W5.setCell ⟨gx, 3, none⟩ (.bool true)).setCell ⟨gx, 1, none⟩ (.slice rva Z.length rvc)).heap.size := Nat.le_trans hB (Nat.le_trans hb5.size hk7.size)
            clear HP2 HB HT HR hgb hcons hk6 hrow5 hN hZ hZ5 hN5 hrow hk hk5 hx hbw hbw5 hb5 hk7
            go_wp2_with (at_builtin; refine wpList_append_own_none rfl _ _ 25 rfl bw 51 i0 5 Tryz.underlying25 hin _ _ _ rfl hrow6 rfl ?_)
            go_roundw
            case rel =>
              refine ⟨r, Z, Ki, kvi, Di, true, .slice rva Z.length rvc, rfl, hrl, ?_, hN7, hKi, hZl, hKil, hx7, hrow7, hZ7, hkk, hB7, ?_⟩
              · exact HP3.out
              · subst hwb
                exact hbw7
            case measure =>
              have t1 : tornAt wr gx = 1 := by unfold tornAt; rw [hc3]
              have t2 : tornAt ((W5.setCell ⟨gx, 3, none⟩ (.bool true)).setCell ⟨gx, 1, none⟩ (.slice rva Z.length rvc)) gx = 0 := by
                unfold tornAt
                rw [(cells6 hx7).1.2.2.2.1]
              rw [t1, t2]
              omega
        | some z =>
          obtain ⟨l, K', rest⟩ := z
          obtain ⟨v, Z2, kv2, D2, rfl, hg, hZ2, hN5, hT5⟩ := hpost
          obtain ⟨h4, h5, h6, h7⟩ := hcons l K' rest sh rfl
          subst hZ2
          rw [List.length_map] at h5
          obtain ⟨⟨p, pc, rfl, hpc⟩, hZok⟩ := hg
          dsimp only at HP2
          have HP3 := Lib.hid (show ∃ q, rest.length ≤ q ∧ readLoop g r0.length [] r0 = behindR ((Z ++ Z2).map (·.1)) (readLoop g q K' rest) from ⟨q, by omega, by
            rw [HP2, List.map_append, ← behindR_app]
            cases readLoop g q K' rest <;> rfl⟩)
          have hx5 := hx.keptK hT5.kept hxn
          have hrow5 := ownsRow_kept hrow hT5.kept (fun b hb e => nf_tag hN (hxr b hb) (by decide) (by decide) e)
          have hZ5 : ∀ z ∈ Z, z.1.ok ∧ LabsOwn W5 z.2 z.1.labels := fun z hz => ⟨(hZ z hz).1, (hZ z hz).2.kept hT5.kept (fun b hb e => nf_tag hN hb (by decide) (by decide) e)⟩
          have hk6 : Kept W5 (W5.setCell ⟨gx, 3, none⟩ (.bool false)) (fun k => k = gx) := Kept.of_grown (grown_set _ _ _ _) fun _ e => (Option.some.inj e).symm
          have hx6 := Blk.set_ hx5 3 (.bool false)
          have hxt5 := tag_blk hx5
          have hxt6 := tag_blk hx6
          have hrow6 := ownsRow_kept hrow5 hk6 (fun b hb e => by have := tag_row hrow5 hb; rw [e, hxt5] at this; simp at this)
          have hN6 := hN5.kept hk6 (fun k hk' e => by rw [e] at hk'; exact nf_tag hN5 hxt5 (by decide) (by decide) hk')
          have hLx : ∀ (z : Rc × Value), z.1.ok ∧ LabsOwn W5 z.2 z.1.labels → z.1.ok ∧ LabsOwn (W5.setCell ⟨gx, 3, none⟩ (.bool false)) z.2 z.1.labels := fun z hz => ⟨hz.1, hz.2.kept hk6 (fun b hb e => by rw [e, hxt5] at hb; simp at hb)⟩
          have hZ6 : ∀ z ∈ Z ++ Z2, z.1.ok ∧ LabsOwn (W5.setCell ⟨gx, 3, none⟩ (.bool false)) z.2 z.1.labels := fun z hz => hLx z ((List.mem_append.1 hz).elim (hZ5 z) (hZok z))
          have hkb6 := hk5.keptK hk6 (by omega)
          have hbw6 := hbw5.trans (Kept.below hk6 (by omega) (fun k hk => by omega))
          have hB6 : B ≤ (W5.setCell ⟨gx, 3, none⟩ (.bool false)).heap.size := Nat.le_trans hB (Nat.le_trans hb5s hk6.size)
          have hpx := got_away hpc hx5
          have hpc6 : ∀ j u, (recsCells Z2)[j]? = some u → (W5.setCell ⟨gx, 3, none⟩ (.bool false)).cell? ((⟨p, 0, none⟩ : Addr).add j) = some u := fun j u hj => hk6.cell (hpc j u hj) (fun e => hpx j u hj (by rw [addr_add] at e; exact e))
          have hx6r : ∀ k, (Value.slice rva Z.length rvc).ownBlock = some k → k ≠ gx := fun k hk' e => by have := tag_row hrow6 hk'; rw [e, hxt6] at this; simp at this
          have HK8 := Lib.hid (show ∀ w8, (W5.setCell ⟨gx, 3, none⟩ (.bool false)).grownBy w8 (Value.slice rva Z.length rvc).ownBlock → Kept (W5.setCell ⟨gx, 3, none⟩ (.bool false)) w8 (fun k => (Value.slice rva Z.length rvc).ownBlock = some k) from fun w8 h => Kept.of_grown h fun k e => e)
          have hk6s := hk6.size
          have H1 := Lib.hid (recsCells_one Z2 hZok)
          obtain ⟨⟨d0, d1, d2, d3, d4, d5⟩, g0, g1, g2, g3', g4, g5⟩ := cells6 hx5
          obtain ⟨⟨d0', d1', d2', d3', d4', d5'⟩, g0', g1', g2', g3'', g4', g5'⟩ := cells6 hx6
          have ⟨i0, hin, hz0, hz1, hz2⟩ := info_parts (show (Tryz.prog.info? 51).map (fun i => (i.zero, i.size, i.bytes)) = some (some (.agg #[.int .i64 0, .slice none 0 0, .int .i64 0, .int .i64 0, .int .u64 0]), 5, 56) by kernel_rfl)
          clear HP2 HB HT HR hgb hcons hrow5 hN hZ hZ5 hN5 hrow hk hk5 hx hbw hbw5 hk6 hZok hLx hT5
          go_wp2_with (at_builtin; refine wpList_append_own_at _ rfl _ _ 25 rfl bw 51 i0 (.agg #[.int .i64 0, .slice none 0 0, .int .i64 0, .int .i64 0, .int .u64 0]) 5 56 Tryz.underlying25 hin hz0 hz1 hz2 rfl (by decide) _ _ _ rfl hrow6 ⟨p, 0, none⟩ Z2.length pc (recsCells Z2) rfl (recsCells_len _) hpc6 H1.out (by unfold maxLen; omega) (by omega) (by omega) ?_; intro v' w8 hown' hgrow hnil hloc; obtain ⟨va', vc', rfl⟩ := row_form hown'; have hk8 := HK8.out w8 hgrow; have hx8 := hx6.keptK hk8 (fun e => hx6r gx e rfl); obtain ⟨⟨z0, z1, z2, z3, z4, z5⟩, y0, y1, y2, y3, y4, y5⟩ := cells6 hx8)
          have hw8r : ∀ k, (Value.slice va' (Z.length + Z2.length) vc').ownBlock = some k → k ≠ gx := fun k hk' e => by have h1 := tag_row hown' hk'; rw [e, tag_blk hx8] at h1; simp at h1
          have hk9 : Kept w8 (w8.setCell ⟨gx, 1, none⟩ (.slice va' (Z.length + Z2.length) vc')) (fun k => k = gx) := Kept.of_grown (grown_set _ _ _ _) fun _ e => (Option.some.inj e).symm
          have hx9 := Blk.set_ hx8 1 (.slice va' (Z.length + Z2.length) vc')
          have hrow9 := ownsRow_kept hown' hk9 (fun b hb e => hw8r b hb e)
          have hk69 := (hk8.weaken (T := fun k => (Value.slice rva Z.length rvc).ownBlock = some k ∨ k = gx) (fun _ e => .inl e)).trans (hk9.weaken (fun _ e => .inr e))
          have hrt : ∀ k, ((Value.slice rva Z.length rvc).ownBlock = some k ∨ k = gx) → tag (W5.setCell ⟨gx, 3, none⟩ (.bool false)) k = some (some 51) ∨ tag (W5.setCell ⟨gx, 3, none⟩ (.bool false)) k = some (some 34) := fun k hk' => hk'.imp (fun h => tag_row hrow6 h) (fun h => by rw [h]; exact hxt6)
          have hN9 := hN6.kept hk69 (fun k hk' e => (hrt k e).elim (fun t => nf_tag hN6 t (by decide) (by decide) hk') (fun t => nf_tag hN6 t (by decide) (by decide) hk'))
          have hZ9 : ∀ z ∈ Z ++ Z2, z.1.ok ∧ LabsOwn (w8.setCell ⟨gx, 1, none⟩ (.slice va' (Z.length + Z2.length) vc')) z.2 z.1.labels := fun z hz => ⟨(hZ6 z hz).1, (hZ6 z hz).2.kept hk69 (fun b hb e => by rcases hrt b e with t | t <;> (rw [hb] at t; simp at t))⟩
          have hkb9 := hkb6.keptK hk69 (fun e => by rcases e with e | e; (have := tag_row hrow6 e; rw [tag_blk hkb6] at this; simp at this); omega)
          have hbw9 := hbw6.trans (Kept.below hk69 (by have := hk6s; omega) (fun k hk' => hk'.elim (hlo k) (fun e => by omega)))
          have hrec : recsCells (Z ++ Z2) = recsCells Z ++ recsCells Z2 := by unfold recsCells; rw [List.flatMap_append]
          refine ⟨⟨rest, Z ++ Z2, K', kv2, D2, false, .slice va' (Z.length + Z2.length) vc', rfl, by omega, ?_, hN9, by omega, by rw [List.length_append]; omega, fun k hk' => (h7 k hk').elim (hKil k) id, hx9, ?_, hZ9, hkb9, Nat.le_trans hB6 hk69.size, ?_⟩, ?_⟩
          · exact HP3.out
          · rw [List.length_append, hrec]
            exact hrow9
          · subst hwb
            exact hbw9
          · have t1 : tornAt wr gx = 1 := by unfold tornAt; rw [hc3]
            have t2 : tornAt (w8.setCell ⟨gx, 1, none⟩ (.slice va' (Z.length + Z2.length) vc')) gx = 1 := by
              unfold tornAt
              rw [(cells6 hx9).1.2.2.2.1]
            rw [t1, t2]
            simp only [strLen, bs_size]
            omega
      · have hc : coderV (g : Int) n = .iface 82 (.agg #[.pointer (some ⟨n, 0, none⟩)]) := by rw [h1]; rfl
        have q4 := Lib.hid (show Calls Tryz.prog 125 #[.agg #[.pointer (some ⟨n, 0, none⟩)], .string (bs r)] wr (CGet wr B n m kvi r (getBy (g : Int) Ki r)) by rw [h1]; exact cget3 r hN hrl2 hKb hKlb hB)
        rw [hc]
        clear hc h1
        go_wp2_with fail
        refine q4.out.mono ?_
        clear q4
        rintro e W5 ⟨hbB5, hpost⟩
        have hcons := getBy_cons (g : Int) Ki r
        have HP2 := HP1.out
        rcases hgb : getBy (g : Int) Ki r with ⟨x, sh⟩
        rw [hgb] at HP2 hpost hcons
        have hxt := tag_blk hx
        have hc3 := (cells6 hx).1.2.2.2.1
        have hxr : ∀ k, (Value.slice rva Z.length rvc).ownBlock = some k → tag wr k = some (some 51) := fun k hk' => tag_row hrow hk'
        have hlo : ∀ k, (Value.slice rva Z.length rvc).ownBlock = some k → bw ≤ k := fun k hk' => (hrow.lt k hk').1
        have hbwW : bw ≤ wr.heap.size := by omega
        have hb5s := hbB5.size
        have hbw5 := hbw.trans (hbB5.mono (Nat.le_of_lt hBw))
        have hk5 := Blk.below hk hbB5 hBw
        clear HP1 c0 c1 c2 c3 c4 c5 f0 f1 f2 f3 f4 f5
        cases x with
        | none =>
          obtain ⟨rfl, hsh⟩ := hpost
          rcases hsh with hsh | ⟨hsh, hb5⟩
          · simp only at hsh
            subst hsh
            have hF : R = (none, 9) := by rw [HR.out, HP2]; rfl
            have HE := Lib.hid (fun w' => HB.out w' 9 hF)
            obtain ⟨⟨d0, d1, d2, d3, d4, d5⟩, g0, g1, g2, g3', g4, g5⟩ := cells6 hk5
            have hs3 := set6 hk5 (.int .i64 0) (.slice none 0 0) (.int .i64 0) (.bool false) (.int .i64 0) (.slice none 0 0)
            clear HP2 hF HB HT HR hgb hcons
            go_wp2_with fail
            (try simp only [Exit.inBlock, Exit.then])
            refine bodyPost_ret (results_ct rfl _ _ bw 34 _ _ rfl hs3.1 Tryz.underlying34 rfl (by kernel_rfl)) rfl ?_
            subst hwb
            exact HE.out _ (hbw5.trans (Kept.below hs3.2 (Nat.le_trans hbwW hb5s) (fun k hk => by omega)))
          · simp only at hsh
            subst hsh
            have HP3 := Lib.hid (show readLoop g r0.length [] r0 = some (Z.map (·.1), Ki, r, true) by rw [HP2]; simp [behindR])
            have hx5 := Blk.below hx hb5 hx.lt
            have hN5 := hN.below hb5
            have hrow5 := ownsRow_kept hrow (Kept.of_below (S := fun _ => False) hb5) (fun _ _ e => e)
            have hZ5 : ∀ z ∈ Z, z.1.ok ∧ LabsOwn W5 z.2 z.1.labels := fun z hz => ⟨(hZ z hz).1, (hZ z hz).2.below hb5⟩
            have hk6 : Kept W5 (W5.setCell ⟨gx, 3, none⟩ (.bool true)) (fun k => k = gx) := Kept.of_grown (grown_set _ _ _ _) fun _ e => (Option.some.inj e).symm
            have hx6 := Blk.set_ hx5 3 (.bool true)
            have hx5r : ∀ k, (Value.slice rva Z.length rvc).ownBlock = some k → k ≠ gx := fun k hk' e => by have := hxr k hk'; rw [e, hxt] at this; simp at this
            have hrow6 := ownsRow_kept hrow5 hk6 (fun b hb e => hx5r b hb e)
            have hx7 := Blk.set_ hx6 1 (.slice rva Z.length rvc)
            have hk7 : Kept W5 ((W5.setCell ⟨gx, 3, none⟩ (.bool true)).setCell ⟨gx, 1, none⟩ (.slice rva Z.length rvc)) (fun k => k = gx) := hk6.trans (Kept.of_grown (grown_set _ _ _ _) fun _ e => (Option.some.inj e).symm)
            have hrow7 := ownsRow_kept hrow5 hk7 (fun b hb e => hx5r b hb e)
            have hN7 := hN5.kept hk7 (fun k hk e => by rw [e] at hk; exact hxn hk)
            have hZ7 : ∀ z ∈ Z, z.1.ok ∧ LabsOwn ((W5.setCell ⟨gx, 3, none⟩ (.bool true)).setCell ⟨gx, 1, none⟩ (.slice rva Z.length rvc)) z.2 z.1.labels := fun z hz => ⟨(hZ5 z hz).1, (hZ5 z hz).2.kept hk7 (fun b hb e => by have := tag_blk hx5; rw [← e, hb] at this; simp at this)⟩
            have hkk := hk5.keptK hk7 (by omega)
            have hbw7 := hbw5.trans (Kept.below hk7 (by have := hb5.size; omega) (fun k hk => by omega))
            obtain ⟨⟨d0, d1, d2, d3, d4, d5⟩, g0, g1, g2, g3', g4, g5⟩ := cells6 hx5
            obtain ⟨⟨d0', d1', d2', d3', d4', d5'⟩, g0', g1', g2', g3'', g4', g5'⟩ := cells6 hx6
            have ⟨i0, hin, _⟩ := info_parts (show (Tryz.prog.info? 51).map (fun i => (i.zero, i.size, i.bytes)) = some (some (.agg #[.int .i64 0, .slice none 0 0, .int .i64 0, .int .i64 0, .int .u64 0]), 5, 56) by kernel_rfl)
            have hB7 : B ≤ ((W5.setCell ⟨gx, 3, none⟩ (.bool true)).setCell ⟨gx, 1, none⟩ (.slice rva Z.length rvc)).heap.size := Nat.le_trans hB (Nat.le_trans hb5.size hk7.size)
            clear HP2 HB HT HR hgb hcons hk6 hrow5 hN hZ hZ5 hN5 hrow hk hk5 hx hbw hbw5 hb5 hk7
            go_wp2_with (at_builtin; refine wpList_append_own_none rfl _ _ 25 rfl bw 51 i0 5 Tryz.underlying25 hin _ _ _ rfl hrow6 rfl ?_)
            go_roundw
            case rel =>
              refine ⟨r, Z, Ki, kvi, Di, true, .slice rva Z.length rvc, rfl, hrl, ?_, hN7, hKi, hZl, hKil, hx7, hrow7, hZ7, hkk, hB7, ?_⟩
              · exact HP3.out
              · subst hwb
                exact hbw7
            case measure =>
              have t1 : tornAt wr gx = 1 := by unfold tornAt; rw [hc3]
              have t2 : tornAt ((W5.setCell ⟨gx, 3, none⟩ (.bool true)).setCell ⟨gx, 1, none⟩ (.slice rva Z.length rvc)) gx = 0 := by
                unfold tornAt
                rw [(cells6 hx7).1.2.2.2.1]
              rw [t1, t2]
              omega
        | some z =>
          obtain ⟨l, K', rest⟩ := z
          obtain ⟨v, Z2, kv2, D2, rfl, hg, hZ2, hN5, hT5⟩ := hpost
          obtain ⟨h4, h5, h6, h7⟩ := hcons l K' rest sh rfl
          subst hZ2
          rw [List.length_map] at h5
          obtain ⟨⟨p, pc, rfl, hpc⟩, hZok⟩ := hg
          dsimp only at HP2
          have HP3 := Lib.hid (show ∃ q, rest.length ≤ q ∧ readLoop g r0.length [] r0 = behindR ((Z ++ Z2).map (·.1)) (readLoop g q K' rest) from ⟨q, by omega, by
            rw [HP2, List.map_append, ← behindR_app]
            cases readLoop g q K' rest <;> rfl⟩)
          have hx5 := hx.keptK hT5.kept hxn
          have hrow5 := ownsRow_kept hrow hT5.kept (fun b hb e => nf_tag hN (hxr b hb) (by decide) (by decide) e)
          have hZ5 : ∀ z ∈ Z, z.1.ok ∧ LabsOwn W5 z.2 z.1.labels := fun z hz => ⟨(hZ z hz).1, (hZ z hz).2.kept hT5.kept (fun b hb e => nf_tag hN hb (by decide) (by decide) e)⟩
          have hk6 : Kept W5 (W5.setCell ⟨gx, 3, none⟩ (.bool false)) (fun k => k = gx) := Kept.of_grown (grown_set _ _ _ _) fun _ e => (Option.some.inj e).symm
          have hx6 := Blk.set_ hx5 3 (.bool false)
          have hxt5 := tag_blk hx5
          have hxt6 := tag_blk hx6
          have hrow6 := ownsRow_kept hrow5 hk6 (fun b hb e => by have := tag_row hrow5 hb; rw [e, hxt5] at this; simp at this)
          have hN6 := hN5.kept hk6 (fun k hk' e => by rw [e] at hk'; exact nf_tag hN5 hxt5 (by decide) (by decide) hk')
          have hLx : ∀ (z : Rc × Value), z.1.ok ∧ LabsOwn W5 z.2 z.1.labels → z.1.ok ∧ LabsOwn (W5.setCell ⟨gx, 3, none⟩ (.bool false)) z.2 z.1.labels := fun z hz => ⟨hz.1, hz.2.kept hk6 (fun b hb e => by rw [e, hxt5] at hb; simp at hb)⟩
          have hZ6 : ∀ z ∈ Z ++ Z2, z.1.ok ∧ LabsOwn (W5.setCell ⟨gx, 3, none⟩ (.bool false)) z.2 z.1.labels := fun z hz => hLx z ((List.mem_append.1 hz).elim (hZ5 z) (hZok z))
          have hkb6 := hk5.keptK hk6 (by omega)
          have hbw6 := hbw5.trans (Kept.below hk6 (by omega) (fun k hk => by omega))
          have hB6 : B ≤ (W5.setCell ⟨gx, 3, none⟩ (.bool false)).heap.size := Nat.le_trans hB (Nat.le_trans hb5s hk6.size)
          have hpx := got_away hpc hx5
          have hpc6 : ∀ j u, (recsCells Z2)[j]? = some u → (W5.setCell ⟨gx, 3, none⟩ (.bool false)).cell? ((⟨p, 0, none⟩ : Addr).add j) = some u := fun j u hj => hk6.cell (hpc j u hj) (fun e => hpx j u hj (by rw [addr_add] at e; exact e))
          have hx6r : ∀ k, (Value.slice rva Z.length rvc).ownBlock = some k → k ≠ gx := fun k hk' e => by have := tag_row hrow6 hk'; rw [e, hxt6] at this; simp at this
          have HK8 := Lib.hid (show ∀ w8, (W5.setCell ⟨gx, 3, none⟩ (.bool false)).grownBy w8 (Value.slice rva Z.length rvc).ownBlock → Kept (W5.setCell ⟨gx, 3, none⟩ (.bool false)) w8 (fun k => (Value.slice rva Z.length rvc).ownBlock = some k) from fun w8 h => Kept.of_grown h fun k e => e)
          have hk6s := hk6.size
          have H1 := Lib.hid (recsCells_one Z2 hZok)
          obtain ⟨⟨d0, d1, d2, d3, d4, d5⟩, g0, g1, g2, g3', g4, g5⟩ := cells6 hx5
          obtain ⟨⟨d0', d1', d2', d3', d4', d5'⟩, g0', g1', g2', g3'', g4', g5'⟩ := cells6 hx6
          have ⟨i0, hin, hz0, hz1, hz2⟩ := info_parts (show (Tryz.prog.info? 51).map (fun i => (i.zero, i.size, i.bytes)) = some (some (.agg #[.int .i64 0, .slice none 0 0, .int .i64 0, .int .i64 0, .int .u64 0]), 5, 56) by kernel_rfl)
          clear HP2 HB HT HR hgb hcons hrow5 hN hZ hZ5 hN5 hrow hk hk5 hx hbw hbw5 hk6 hZok hLx hT5
          go_wp2_with (at_builtin; refine wpList_append_own_at _ rfl _ _ 25 rfl bw 51 i0 (.agg #[.int .i64 0, .slice none 0 0, .int .i64 0, .int .i64 0, .int .u64 0]) 5 56 Tryz.underlying25 hin hz0 hz1 hz2 rfl (by decide) _ _ _ rfl hrow6 ⟨p, 0, none⟩ Z2.length pc (recsCells Z2) rfl (recsCells_len _) hpc6 H1.out (by unfold maxLen; omega) (by omega) (by omega) ?_; intro v' w8 hown' hgrow hnil hloc; obtain ⟨va', vc', rfl⟩ := row_form hown'; have hk8 := HK8.out w8 hgrow; have hx8 := hx6.keptK hk8 (fun e => hx6r gx e rfl); obtain ⟨⟨z0, z1, z2, z3, z4, z5⟩, y0, y1, y2, y3, y4, y5⟩ := cells6 hx8)
          have hw8r : ∀ k, (Value.slice va' (Z.length + Z2.length) vc').ownBlock = some k → k ≠ gx := fun k hk' e => by have h1 := tag_row hown' hk'; rw [e, tag_blk hx8] at h1; simp at h1
          have hk9 : Kept w8 (w8.setCell ⟨gx, 1, none⟩ (.slice va' (Z.length + Z2.length) vc')) (fun k => k = gx) := Kept.of_grown (grown_set _ _ _ _) fun _ e => (Option.some.inj e).symm
          have hx9 := Blk.set_ hx8 1 (.slice va' (Z.length + Z2.length) vc')
          have hrow9 := ownsRow_kept hown' hk9 (fun b hb e => hw8r b hb e)
          have hk69 := (hk8.weaken (T := fun k => (Value.slice rva Z.length rvc).ownBlock = some k ∨ k = gx) (fun _ e => .inl e)).trans (hk9.weaken (fun _ e => .inr e))
          have hrt : ∀ k, ((Value.slice rva Z.length rvc).ownBlock = some k ∨ k = gx) → tag (W5.setCell ⟨gx, 3, none⟩ (.bool false)) k = some (some 51) ∨ tag (W5.setCell ⟨gx, 3, none⟩ (.bool false)) k = some (some 34) := fun k hk' => hk'.imp (fun h => tag_row hrow6 h) (fun h => by rw [h]; exact hxt6)
          have hN9 := hN6.kept hk69 (fun k hk' e => (hrt k e).elim (fun t => nf_tag hN6 t (by decide) (by decide) hk') (fun t => nf_tag hN6 t (by decide) (by decide) hk'))
          have hZ9 : ∀ z ∈ Z ++ Z2, z.1.ok ∧ LabsOwn (w8.setCell ⟨gx, 1, none⟩ (.slice va' (Z.length + Z2.length) vc')) z.2 z.1.labels := fun z hz => ⟨(hZ6 z hz).1, (hZ6 z hz).2.kept hk69 (fun b hb e => by rcases hrt b e with t | t <;> (rw [hb] at t; simp at t))⟩
          have hkb9 := hkb6.keptK hk69 (fun e => by rcases e with e | e; (have := tag_row hrow6 e; rw [tag_blk hkb6] at this; simp at this); omega)
          have hbw9 := hbw6.trans (Kept.below hk69 (by have := hk6s; omega) (fun k hk' => hk'.elim (hlo k) (fun e => by omega)))
          have hrec : recsCells (Z ++ Z2) = recsCells Z ++ recsCells Z2 := by unfold recsCells; rw [List.flatMap_append]
          refine ⟨⟨rest, Z ++ Z2, K', kv2, D2, false, .slice va' (Z.length + Z2.length) vc', rfl, by omega, ?_, hN9, by omega, by rw [List.length_append]; omega, fun k hk' => (h7 k hk').elim (hKil k) id, hx9, ?_, hZ9, hkb9, Nat.le_trans hB6 hk69.size, ?_⟩, ?_⟩
          · exact HP3.out
          · rw [List.length_append, hrec]
            exact hrow9
          · subst hwb
            exact hbw9
          · have t1 : tornAt wr gx = 1 := by unfold tornAt; rw [hc3]
            have t2 : tornAt (w8.setCell ⟨gx, 1, none⟩ (.slice va' (Z.length + Z2.length) vc')) gx = 1 := by
              unfold tornAt
              rw [(cells6 hx9).1.2.2.2.1]
            rw [t1, t2]
            simp only [strLen, bs_size]
            omega
  · rw [if_pos he] at hR0
    have HE := Lib.hid (fun w' => HB.out w' e0 hR0)
    have hz : (e0 != 0) = true := by simpa using he
    have hz2 : (e0 == 0) = false := by simpa using he
    clear hR0 HB HT hgen
    go_enter Tryz.func11, Tryz.ntmps11
    go_wp2_with fail
    refine (q0.out _).mono ?_
    rintro e W1 ⟨rfl, hb1⟩
    have k1 := Blk.below k0 hb1 k0.lt
    have hbw1 := b0.trans (hb1.mono b0.size)
    obtain ⟨⟨d0, d1, d2, d3, d4, d5⟩, g0, g1, g2, g3', g4, g5⟩ := cells6 k1
    have hs3 := set6 k1 (.int .i64 0) (.slice none 0 0) (.int .i64 0) (.bool false) (.int .i64 0) (.slice none 0 0)
    clear k0 b0 hb1 q0
    go_wp2_with fail
    (try simp only [Exit.inBlock, Exit.then])
    refine bodyPost_ret (results_ct rfl _ _ w.heap.size 34 _ _ rfl hs3.1 Tryz.underlying34 rfl (by kernel_rfl)) rfl ?_
    exact HE.out _ (hbw1.trans (Kept.below hs3.2 hbw1.size (fun k hk => by omega)))
end Go.Proofs.YtipdeiiipdnacaaGreat
