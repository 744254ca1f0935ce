/- The law DiskSweeps: the plain part, and the calls it needs. -/
import Derived.Test.YtocfaffiifhggaaDskW
namespace Go.Proofs.Ytocfaffiifhggaa
open Go.RowKit Go.Maps Go.WideMaps Go.WideShapes Go.Deep
attribute [local go_sem] bs_toList bs_size

def someB : List UInt8 := [115, 111, 109, 101]

section
variable {N sy : Nm} {mv : List Nm} {fl : Nat → Fl} {room : Int} {st : Nat} {l : List UInt8} {g : Nat} {keep : List (List UInt8)}

theorem create_cases (hn : N.length < 64) : (∃ r, r ≠ 0 ∧ FsS.create ⟨N, sy, mv, fl, room, st, -1, false⟩ l g = (⟨N, sy, mv, fl, room, st, -1, false⟩, r)) ∨
    (l.length ≤ 40 ∧ N.at l = none ∧ FsS.create ⟨N, sy, mv, fl, room, st, -1, false⟩ l g = (⟨N.put l g, sy, mv ++ [N.put l g], fl, room, st + 1, -1, false⟩, 0)) := by
  by_cases hr : rightN l = true
  · cases ha : N.at l with
    | none =>
      right
      refine ⟨?_, rfl, ?_⟩
      · unfold rightN at hr
        simp at hr
        exact hr.2
      · rw [create_go hr ha hn, if_neg (by decide)]
        rfl
    | some k =>
      left
      refine ⟨12, by decide, ?_⟩
      unfold FsS.create
      rw [if_neg (by simp), if_neg (by simp [hr]), if_pos (by simp [ha])]
  · left
    refine ⟨1, by decide, ?_⟩
    unfold FsS.create
    rw [if_neg (by simp), if_pos (by simpa using hr)]

/-- The files that are to be kept. -/
def keptOf (keep : List (List UInt8)) (N : Nm) : Nm := N.filter fun p => decide (p.1 ∈ keep)
theorem sweepLoop_plain (keep : List (List UInt8)) : ∀ (l : List (List UInt8)) (N : Nm) (mv : List Nm) (st n : Nat), N.ok → l.Nodup → (∀ x ∈ l, x ∈ N.keys) →
    ∃ mv', sweepLoop keep l ⟨N, sy, mv, fl, room, st, -1, false⟩ n = (⟨N.filter fun p => decide (p.1 ∈ keep) || !decide (p.1 ∈ l), sy, mv', fl, room, st + (l.filter fun x => !decide (x ∈ keep)).length, -1, false⟩, n + (l.filter fun x => !decide (x ∈ keep)).length, 0)
  | [], N, mv, st, n, hN, _, _ => ⟨mv, by
    have : N.filter (fun p => decide (p.1 ∈ keep) || !decide (p.1 ∈ ([] : List (List UInt8)))) = N := by
      rw [List.filter_eq_self]
      intro p _
      simp
    rw [this]
    rfl⟩
  | x :: r, N, mv, st, n, hN, hd, hm => by
    obtain ⟨hx, hr⟩ := List.nodup_cons.1 hd
    rw [sweepLoop_cons]
    by_cases hk : x ∈ keep
    · obtain ⟨mv', e⟩ := sweepLoop_plain keep r N mv st n hN hr fun y hy => hm y (List.mem_cons_of_mem _ hy)
      refine ⟨mv', ?_⟩
      rw [if_pos hk, e]
      have h1 : N.filter (fun p => decide (p.1 ∈ keep) || !decide (p.1 ∈ x :: r)) = N.filter (fun p => decide (p.1 ∈ keep) || !decide (p.1 ∈ r)) := by
        apply List.filter_congr
        intro p _
        by_cases hp : p.1 = x
        · rw [hp]
          simp [hk]
        · simp [hp]
      rw [h1, List.filter_cons, if_neg (by simp [hk])]
    · have hxN : x ∈ N.keys := hm x List.mem_cons_self
      obtain ⟨p, hp, hpx⟩ := List.mem_map.1 hxN
      have ha : N.at x = some p.2 := Nm.at_of_mem hN (by rw [← hpx]; exact hp)
      obtain ⟨mv', e⟩ := sweepLoop_plain keep r (N.del x) (mv ++ [N.del x]) (st + 1) (n + 1) (hN.del x) hr fun y hy => by
        obtain ⟨q, hq, hqy⟩ := List.mem_map.1 (hm y (List.mem_cons_of_mem _ hy))
        exact List.mem_map.2 ⟨q, Nm.mem_del.2 ⟨hq, fun e => hx (by rw [← e, hqy]; exact hy)⟩, hqy⟩
      refine ⟨mv', ?_⟩
      rw [if_neg hk, remove_go ha, if_neg (show ¬ ((-1 : Int) = 0) by decide), show tickN (-1) = -1 from rfl]
      simp only
      rw [if_neg (by simp), e]
      have h1 : (N.del x).filter (fun p => decide (p.1 ∈ keep) || !decide (p.1 ∈ r)) = N.filter (fun p => decide (p.1 ∈ keep) || !decide (p.1 ∈ x :: r)) := by
        unfold Nm.del
        rw [List.filter_filter]
        apply List.filter_congr
        intro p _
        by_cases hp : p.1 = x
        · rw [hp]
          simp [hk]
        · simp [hp]
      rw [h1, List.filter_cons, if_pos (by simp [hk]), List.length_cons]
      rw [Nat.add_right_comm st 1, Nat.add_right_comm n 1]
      rfl

theorem keys_nodup (hN : N.ok) : N.keys.Nodup := by
  unfold Nm.keys List.Nodup
  rw [List.pairwise_map]
  refine hN.1.imp ?_
  intro a b h e
  rw [e] at h
  exact before_irrefl _ h
theorem keptOf_ok (hN : N.ok) : (keptOf keep N).ok := ⟨hN.1.filter _, hN.2.filter _, fun p hp => hN.3 p (List.mem_filter.1 hp).1⟩
theorem keptOf_keys : (keptOf keep N).keys = N.keys.filter fun x => decide (x ∈ keep) := by
  unfold keptOf Nm.keys
  rw [List.filter_map]
  rfl
theorem keptOf_twice : keptOf keep (keptOf keep N) = keptOf keep N := by
  unfold keptOf
  rw [List.filter_eq_self]
  intro p hp
  exact (List.mem_filter.1 hp).2
/-- How many go. -/
def gone (keep : List (List UInt8)) (N : Nm) : Nat := (N.keys.filter fun x => !decide (x ∈ keep)).length
theorem gone_kept : gone keep (keptOf keep N) = 0 := by
  unfold gone
  rw [List.length_eq_zero_iff, List.filter_eq_nil_iff]
  intro x hx
  rw [keptOf_keys] at hx
  simpa using (List.mem_filter.1 hx).2
theorem gone_add : ∀ (l : List (List UInt8)), (l.filter fun x => !decide (x ∈ keep)).length + (l.filter fun x => decide (x ∈ keep)).length = l.length
  | [] => rfl
  | x :: r => by
    have := gone_add r
    by_cases h : x ∈ keep
    · rw [List.filter_cons, if_neg (by simp [h]), List.filter_cons, if_pos (by simp [h])]
      simp only [List.length_cons]
      omega
    · rw [List.filter_cons, if_pos (by simp [h]), List.filter_cons, if_neg (by simp [h])]
      simp only [List.length_cons]
      omega
theorem sweep_plain (hN : N.ok) : ∃ sy' mv' st', FsS.sweep ⟨N, sy, mv, fl, room, st, -1, false⟩ keep = (⟨keptOf keep N, sy', mv', fl, room, st', -1, false⟩, gone keep N, 0) ∧ st' ≤ st + N.length + 1 := by
  obtain ⟨mv', e⟩ := sweepLoop_plain (sy := sy) (fl := fl) (room := room) keep N.keys N mv st 0 hN (keys_nodup hN) fun x h => h
  have h1 : N.filter (fun p => decide (p.1 ∈ keep) || !decide (p.1 ∈ N.keys)) = keptOf keep N := by
    apply List.filter_congr
    intro p hp
    have : p.1 ∈ N.keys := List.mem_map.2 ⟨p, hp, rfl⟩
    simp [this]
  rw [h1, Nat.zero_add] at e
  have hle : (N.keys.filter fun x => !decide (x ∈ keep)).length ≤ N.length := by
    have := List.length_filter_le (fun x => !decide (x ∈ keep)) N.keys
    unfold Nm.keys at this ⊢
    rwa [List.length_map] at this
  rw [sweep_eq]
  show ∃ sy' mv' st', (if (sweepLoop keep N.keys ⟨N, sy, mv, fl, room, st, -1, false⟩ 0).2.2 ≠ 0 then _ else _) = _ ∧ _
  simp only [e]
  rw [if_neg (by simp)]
  by_cases h0 : (N.keys.filter fun x => !decide (x ∈ keep)).length = 0
  · rw [if_pos h0]
    refine ⟨sy, mv', _, ?_, show st + (N.keys.filter fun x => !decide (x ∈ keep)).length ≤ _ by omega⟩
    unfold gone
    rw [h0]
  · rw [if_neg h0, syncDir_go, if_neg (show ¬ ((-1 : Int) = 0) by decide)]
    exact ⟨_, _, _, rfl, by omega⟩

theorem size_some : ∀ {N : Nm}, (∀ k ∈ N.ids, (fl k).nw = someB) → sizeIn fl N = 4 * N.length
  | [], _ => rfl
  | p :: N, h => by
    have h1 := size_some (N := N) fun k hk => h k (List.mem_cons_of_mem _ hk)
    have h2 := h p.2 List.mem_cons_self
    unfold sizeIn at *
    simp only [List.map_cons, List.sum_cons, List.length_cons]
    rw [h1, h2]
    show 4 + _ = _
    omega
theorem append_some (ha : N.at l = none) (hN : N.length ≤ 10) (hNo : N.ok) (hall : ∀ k ∈ N.ids, (fl k).nw = someB) (hg : fl g = Fl.new) :
    FsS.append ⟨N.put l g, sy, mv, fl, 1000, st, -1, false⟩ l someB = (⟨N.put l g, sy, mv, flSet fl g ((fl g).do (.app someB)), 1000, st + 1, -1, false⟩, 0) := by
  have hs := sizeIn_put fl l g N hNo.1
  unfold lenAt at hs
  rw [ha, hg, size_some hall] at hs
  have hs' : sizeIn fl (N.put l g) ≤ 40 := by
    simp [Fl.new] at hs
    omega
  rw [append_go (Nm.at_put_same _ _ _) (by show (sizeIn fl (N.put l g) : Int) + 4 ≤ 1000; omega), if_neg (by decide)]
  rfl
theorem all_some (hall : ∀ k ∈ N.ids, (fl k).nw = someB) (hg : fl g = Fl.new) : ∀ k ∈ (N.put l g).ids, (flSet fl g ((fl g).do (.app someB)) k).nw = someB := fun k hk => by
  by_cases e : k = g
  · rw [e, flSet_same, hg]
    rfl
  · rw [flSet_other _ _ e]
    obtain ⟨p, hp, rfl⟩ := List.mem_map.1 hk
    rcases Nm.mem_put.1 hp with rfl | ⟨hm, _⟩
    · exact absurd rfl e
    · exact hall _ (List.mem_map.2 ⟨p, hm, rfl⟩)
end

/-- The kept ones among the first so many. -/
theorem kept_next {l keep : List (List UInt8)} {i : Nat} (h : i < l.length) : ((l.take (i + 1)).filter fun x => decide (x ∈ keep)) = ((l.take i).filter fun x => decide (x ∈ keep)) ++ if l[i] ∈ keep then [l[i]] else [] := by
  rw [List.take_succ_eq_append_getElem h, List.filter_append]
  congr 1
  by_cases hk : l[i] ∈ keep <;> simp [hk]
theorem kept_at {l keep : List (List UInt8)} {i : Nat} (h : i < l.length) (hk : l[i] ∈ keep) : (l.filter fun x => decide (x ∈ keep))[((l.take i).filter fun x => decide (x ∈ keep)).length]? = some l[i] := by
  have e : l.filter (fun x => decide (x ∈ keep)) = ((l.take (i + 1)).filter fun x => decide (x ∈ keep)) ++ ((l.drop (i + 1)).filter fun x => decide (x ∈ keep)) := by rw [← List.filter_append, List.take_append_drop]
  rw [e, kept_next h, if_pos hk, List.append_assoc, List.getElem?_append_right (Nat.le_refl _), Nat.sub_self]
  rfl

section
variable {W w : World} {G : Nat} {S : FsS} {F : Nat → Prop} {N sy : Nm} {mv : List Nm} {fl : Nat → Fl} {room : Int} {st : Nat}
theorem Fs_of_long (h : FsMem w G S F) (l : List UInt8) (hl : l.length ≤ maxLen) :
    Calls Try.prog 23 #[.pointer (some ⟨G, 0, none⟩), .string (bs l)] w fun e w' => e = .returned (ofVal (S.of l)) ∧ w = w' := by
  obtain ⟨nb, sb, mv, mbs, chv, h⟩ := h
  refine (Fs_of_any S.names.data l hl h.fs h.nm).mono ?_
  rintro e w' ⟨⟨v, rfl, hv⟩, rfl⟩
  refine ⟨?_, rfl⟩
  unfold ofV at hv
  rw [Nm.has_data, Nm.atKey_data] at hv
  rcases S.of_cases l with ⟨h1, h2⟩ | ⟨h1, h2, h3⟩ | ⟨g, h1, h2, h3⟩
  · rw [h2, if_pos rfl] at hv
    rw [h1, hv]
    rfl
  · rw [h2, h3, if_neg (by simp), if_pos Option.isSome_none] at hv
    rw [h1, hv]
    rfl
  · rw [h2, h3, if_neg (by simp), if_neg (by simp)] at hv
    obtain ⟨x, ps, hx, rfl⟩ := hv
    obtain ⟨g', e1, rfl⟩ := ptrR_lit hx
    rw [h1]
    obtain rfl : g = g' := by omega
    rfl

set_option maxRecDepth 100000 in
/-- No file has too long a name. -/
theorem Mach.createLong (m : Mach W w G ⟨N, sy, mv, fl, room, st, -1, false⟩ F) (l : List UInt8) (hl : l.length ≤ maxLen) (h40 : 40 < l.length) :
    Calls Try.prog 10 #[.pointer (some ⟨G, 0, none⟩), .string (bs l)] w fun e w' => e = .returned (.int .i64 1) ∧ Mach W w' G ⟨N, sy, mv, fl, room, st, -1, false⟩ F := by
  have hb := one_step w (.cells #[.string (bs l)] 9)
  have hM := m.mem.below hb
  have q := Fs_of_long hM l hl
  have qr := right_any l (w.alloc (.cells #[.string (bs l)] 9))
  have hr : rightN l = false := by
    unfold rightN
    simp
    intro _
    omega
  have ha : N.at l = none := by
    cases hc : N.at l with
    | none => rfl
    | some k =>
      have := m.ok.names.3 _ (Nm.mem_at hc)
      simp only at this
      omega
  have ho : FsS.of ⟨N, sy, mv, fl, room, st, -1, false⟩ l = .inr 11 := by
    unfold FsS.of
    simp [ha]
  rw [ho] at q
  simp only [ofVal] at q
  unfold rightN at hr
  rw [hr] at qr
  have m2 := m.below hb
  unfold maxLen at hl
  have Q := Lib.hid q
  have QR := Lib.hid qr
  clear q qr hr ho ha hM
  go_enter Try.func10, Try.ntmps10
  go_wp2_with fail
  refine Q.out.mono ?_
  rintro e w' ⟨rfl, rfl⟩
  go_wp2_with fail
  refine QR.out.mono ?_
  rintro e w' ⟨rfl, rfl⟩
  go_wp2
  go_ret
  exact ⟨rfl, m2⟩
theorem Mach.create (m : Mach W w G ⟨N, sy, mv, fl, room, st, -1, false⟩ F) (l : List UInt8) (hl : l.length ≤ maxLen) (hn : N.length < 64) (hs : st ≤ 500000) :
    Calls Try.prog 10 #[.pointer (some ⟨G, 0, none⟩), .string (bs l)] w fun e w' =>
      (∃ r F', r ≠ 0 ∧ e = .returned (.int .i64 r) ∧ Mach W w' G ⟨N, sy, mv, fl, room, st, -1, false⟩ F') ∨
      ∃ g F', l.length ≤ 40 ∧ N.at l = none ∧ fl g = Fl.new ∧ e = .returned (.int .i64 0) ∧ Mach W w' G ⟨N.put l g, sy, mv ++ [N.put l g], fl, room, st + 1, -1, false⟩ F' := by
  by_cases h40 : 40 < l.length
  · refine (m.createLong l hl h40).mono ?_
    rintro e w' ⟨rfl, m'⟩
    exact .inl ⟨1, F, by decide, rfl, m'⟩
  · refine (Fs_Create_mem m.mem m.ok hs l (by omega)).mono ?_
    rintro e w' ⟨g, hg, hd⟩
    obtain ⟨F', m'⟩ := m.did hd (m.ok.create _ hg)
    obtain rfl := hd.form
    rcases create_cases (sy := sy) (mv := mv) (fl := fl) (room := room) (st := st) (l := l) (g := g) hn with ⟨r, h0, e⟩ | ⟨h1, h2, e⟩
    · rw [e] at m' ⊢
      exact .inl ⟨r, F', h0, rfl, m'⟩
    · rw [e] at m' ⊢
      exact .inr ⟨g, F', h1, h2, hg.2, rfl, m'⟩
theorem Mach.appendSome {l : List UInt8} {g : Nat} (m : Mach W w G ⟨N.put l g, sy, mv, fl, 1000, st, -1, false⟩ F) (hN : N.ok) (hl : l.length ≤ 40) (ha : N.at l = none) (hn : N.length ≤ 10) (hs : st ≤ 500000) (hall : ∀ k ∈ N.ids, (fl k).nw = someB) (hg : fl g = Fl.new) :
    Calls Try.prog 11 #[.pointer (some ⟨G, 0, none⟩), .string (bs l), .string (bs someB)] w fun e w' =>
      ∃ F', e = .returned (.int .i64 0) ∧ Mach W w' G ⟨N.put l g, sy, mv, flSet fl g ((fl g).do (.app someB)), 1000, st + 1, -1, false⟩ F' := by
  refine (Fs_Append_mem m.mem m.ok hs l someB (by omega) (by decide)).mono ?_
  intro e w' hd
  obtain ⟨F', m'⟩ := m.did hd (m.ok.append _ _ (by decide))
  obtain rfl := hd.form
  rw [append_some ha hn hN hall hg] at m' ⊢
  exact ⟨F', rfl, m'⟩
end
end Go.Proofs.Ytocfaffiifhggaa
