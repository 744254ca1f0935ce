/- Files on a machine: Remove, Rename. -/
import Derived.Test.YtocfaffiifhggaaSimL
namespace Go.Proofs.Ytocfaffiifhggaa
open Go.RowKit Go.Maps Go.WideMaps
attribute [local go_sem] bs_toList bs_size

section
variable {w : World} {G : Nat} {S : FsS} {F : Nat → Prop}

theorem Remove_step (h : FsMem w G S F) (hok : S.ok) (hs : S.steps ≤ 500000) (l : List UInt8) (hl : l.length ≤ 1048576) :
    Calls Try.prog 25 #[.pointer (some ⟨G, 0, none⟩), .func (.func 56) #[] #[.pointer (some ⟨w.heap.size, 0, none⟩)]] (w.alloc (.cells #[.string (bs l)] 9)) fun e w' =>
      Did w w' G F e (S.step fun T => T.moved (T.names.del l)) := by
  have hb := one_step w (.cells #[.string (bs l)] 9)
  refine (Fs_move_args (fun b => #[.map (some b), .pointer (some ⟨w.heap.size, 0, none⟩)]) (fun _ => rfl) (fun N => N = S.names.del l) (h.below hb) hok hs (fun b W => by go_simp) ?_).mono ?_
  · intro w1 b hk hbb hD
    have hG : w.heap.size ≠ G := by have := h.lt _ h.gG; omega
    refine (Remove_do_any l (by unfold maxLen; omega) hD (hk.cell (new_cell w _ _) hG)).mono ?_
    rintro e w' ⟨rfl, hD', hg⟩
    refine ⟨rfl, _, rfl, ?_, hg.grown, ?_⟩
    · rw [← Nm.data_del] at hD'
      exact hD'.tight
    · intro g hg
      obtain ⟨p, hp, rfl⟩ := List.mem_map.1 hg
      exact .inl ⟨S.names, by simp [FsS.dirs], List.mem_map.2 ⟨p, (Nm.mem_del.1 hp).1, rfl⟩⟩
  · intro e w' hst
    obtain ⟨F', h1, h2⟩ := hst.before hb
    unfold FsS.step
    rcases h2 with ⟨h0, he, hM⟩ | ⟨h0, he, T, ⟨N, rfl, rfl⟩, hM⟩
    · rw [if_pos h0]
      exact ⟨F', h1, he, hM⟩
    · rw [if_neg h0]
      exact ⟨F', h1, he, hM⟩

set_option maxRecDepth 100000 in
theorem Fs_Remove_mem (h : FsMem w G S F) (hok : S.ok) (hs : S.steps ≤ 500000) (l : List UInt8) (hl : l.length ≤ 1048576) :
    Calls Try.prog 34 #[.pointer (some ⟨G, 0, none⟩), .string (bs l)] w fun e w' => Did w w' G F e (S.remove l) := by
  have hb := one_step w (.cells #[.string (bs l)] 9)
  have hM := h.below hb
  have q := Lib.hid (Fs_of_mem hM l hl)
  have qm := Lib.hid (Remove_step h hok hs l hl)
  unfold FsS.remove
  rcases S.of_cases l with ⟨h1, h2⟩ | ⟨h1, h2, h3⟩ | ⟨g, h1, h2, h3⟩
  all_goals
    rw [h1] at q ⊢
    simp only [ofVal] at q ⊢
    go_enter Try.func34, Try.ntmps34
    go_wp2_with fail
    refine q.out.mono ?_
    rintro e w' ⟨rfl, rfl⟩
  · go_wp2
    go_ret
    exact did_none hM hb _
  · go_wp2
    go_ret
    exact did_none hM hb _
  · go_wp2_with fail
    refine qm.out.mono ?_
    intro e w' hd
    have hR := Lib.hid hd
    obtain rfl := hd.form
    clear hd
    go_wp2
    go_ret
    exact hR.out

set_option maxRecDepth 100000 in
theorem Rename_do_any {b n p1 p2 p3 g : Nat} {D : DataW Unit} (l k : List UInt8) (hl : l.length ≤ maxLen) (hk : k.length ≤ maxLen) (hn : n < maxLen) (hD : Dir w b n D) (hp1 : w.cell? ⟨p1, 0, none⟩ = some (.string (bs l)))
    (hp2 : w.cell? ⟨p2, 0, none⟩ = some (.pointer (some ⟨g, 0, none⟩))) (hp3 : w.cell? ⟨p3, 0, none⟩ = some (.string (bs k))) :
    Calls Try.prog 59 #[.map (some b), .pointer (some ⟨p1, 0, none⟩), .pointer (some ⟨p2, 0, none⟩), .pointer (some ⟨p3, 0, none⟩)] w fun e w' =>
      e = .returned (.tuple #[]) ∧ Dir w' b (n + 1) ((D.del (.string l)).put (.string k) (.lit (.int .u64 (g : Int)))) ∧ w.grownBy w' (some b) := by
  unfold Dir at *
  have hkey := nameKey l hl
  have hkey2 := nameKey k hk
  have hb2 : ∀ p v, w.cell? ⟨p, 0, none⟩ = some v → p ≠ b := fun p v hp e => by
    subst e
    obtain ⟨es, clock, hb, _⟩ := hD
    simp [World.cell?, hb] at hp
  have n2 := hb2 _ _ hp2
  have n3 := hb2 _ _ hp3
  go_enter Try.func59, Try.ntmps59
  go_wp2_with (first | (at_delete; refine wpList_delete_own _ rfl _ _ 46 9 rfl 50 (string_keyed Try.underlying9) Try.underlying46 _ b n D rfl hD _ _ rfl hkey ?_; intro w1 hown1 hturn1; have d2 := (World.cell?_of_block (hturn1.grown.block p2 (World.block_lt_of_cell? _ _ hp2) (fun e => n2 (Option.some.inj e)))).trans hp2; have d3 := (World.cell?_of_block (hturn1.grown.block p3 (World.block_lt_of_cell? _ _ hp3) (fun e => n3 (Option.some.inj e)))).trans hp3) | (at_mapUpdate; refine wpList_mapUpdate_own _ rfl _ _ _ 46 rfl 9 50 (string_keyed Try.underlying9) Try.underlying46 ptrR b n _ rfl hown1 hn _ _ _ rfl rfl hkey2 (.lit (.int .u64 (g : Int))) [] rfl ?_; intro w2 hown2 hgrow2))
  go_end0
  exact ⟨rfl, hown2, grown_trans' hturn1.grown hgrow2⟩

/-- Rename's step, its names and the file's address boxed. -/
theorem Rename_step (h : FsMem w G S F) (hok : S.ok) (hs : S.steps ≤ 500000) (l k : List UInt8) (hl : l.length ≤ 1048576) (hk : k.length ≤ 1048576) {g : Nat} (hg : S.names.at l = some g) {w0 : World} (hb : Below w0.heap.size w0 w) {p1 p2 p3 : Nat}
    (hp1 : w.cell? ⟨p1, 0, none⟩ = some (.string (bs l))) (hp2 : w.cell? ⟨p2, 0, none⟩ = some (.pointer (some ⟨g, 0, none⟩))) (hp3 : w.cell? ⟨p3, 0, none⟩ = some (.string (bs k))) (n1 : p1 ≠ G) (n2 : p2 ≠ G) (n3 : p3 ≠ G) :
    Calls Try.prog 25 #[.pointer (some ⟨G, 0, none⟩), .func (.func 59) #[] #[.pointer (some ⟨p1, 0, none⟩), .pointer (some ⟨p2, 0, none⟩), .pointer (some ⟨p3, 0, none⟩)]] w fun e w' =>
      Did w0 w' G F e (S.step fun T => T.moved ((T.names.del l).put k g)) := by
  refine (Fs_move_args (fun b => #[.map (some b), .pointer (some ⟨p1, 0, none⟩), .pointer (some ⟨p2, 0, none⟩), .pointer (some ⟨p3, 0, none⟩)]) (fun _ => rfl) (fun N => N = (S.names.del l).put k g) h hok hs (fun b W => by go_simp) ?_).mono ?_
  · intro w1 b hkk hbb hD
    have := (hok.dirs S.names (by simp [FsS.dirs])).2
    refine (Rename_do_any l k (by unfold maxLen; omega) (by unfold maxLen; omega) (by unfold maxLen; omega) hD (hkk.cell hp1 n1) (hkk.cell hp2 n2) (hkk.cell hp3 n3)).mono ?_
    rintro e w' ⟨rfl, hD', hg'⟩
    refine ⟨rfl, _, rfl, ?_, hg', ?_⟩
    · rw [← Nm.data_del, ← Nm.data_put] at hD'
      exact hD'.tight
    · intro i hi
      obtain ⟨p, hp, rfl⟩ := List.mem_map.1 hi
      rcases Nm.mem_put.1 hp with rfl | hp
      · exact .inl ⟨S.names, by simp [FsS.dirs], Nm.at_ids hg⟩
      · exact .inl ⟨S.names, by simp [FsS.dirs], List.mem_map.2 ⟨p, (Nm.mem_del.1 hp.1).1, rfl⟩⟩
  · intro e w' hst
    obtain ⟨F', h1, h2⟩ := hst.before hb
    unfold FsS.step
    rcases h2 with ⟨h0, he, hM⟩ | ⟨h0, he, T, ⟨N, rfl, rfl⟩, hM⟩
    · rw [if_pos h0]
      exact ⟨F', h1, he, hM⟩
    · rw [if_neg h0]
      exact ⟨F', h1, he, hM⟩

theorem boxes2 (w : World) (a b : Value) (s t : TypeId) : Below w.heap.size w ((w.alloc (.cells #[a] s)).alloc (.cells #[b] t)) ∧
    ((w.alloc (.cells #[a] s)).alloc (.cells #[b] t)).cell? ⟨w.heap.size, 0, none⟩ = some a ∧ ((w.alloc (.cells #[a] s)).alloc (.cells #[b] t)).cell? ⟨w.heap.size + 1, 0, none⟩ = some b := by
  have h2 : Blk ((w.alloc (.cells #[a] s)).alloc (.cells #[b] t)) (w.heap.size + 1) t #[b] := by
    have := Blk.new (w.alloc (.cells #[a] s)) t #[b]
    rwa [World.size_alloc] at this
  exact ⟨((Below.refl _ w).alloc (Nat.le_refl _) _).alloc (by simp) _, (Blk.cell (Blk.alloc (Blk.new w _ _) _) 0).trans rfl, (Blk.cell h2 0).trans rfl⟩
theorem boxes3 (w : World) (a b c : Value) (s t u : TypeId) : Below w.heap.size w (((w.alloc (.cells #[a] s)).alloc (.cells #[b] t)).alloc (.cells #[c] u)) ∧
    (((w.alloc (.cells #[a] s)).alloc (.cells #[b] t)).alloc (.cells #[c] u)).cell? ⟨w.heap.size, 0, none⟩ = some a ∧ (((w.alloc (.cells #[a] s)).alloc (.cells #[b] t)).alloc (.cells #[c] u)).cell? ⟨w.heap.size + 1, 0, none⟩ = some b ∧
    (((w.alloc (.cells #[a] s)).alloc (.cells #[b] t)).alloc (.cells #[c] u)).cell? ⟨w.heap.size + 1 + 1, 0, none⟩ = some c := by
  obtain ⟨h1, h2, h3⟩ := boxes2 w a b s t
  have hs : ((w.alloc (.cells #[a] s)).alloc (.cells #[b] t)).heap.size = w.heap.size + 1 + 1 := by simp
  have h4 : Blk (((w.alloc (.cells #[a] s)).alloc (.cells #[b] t)).alloc (.cells #[c] u)) (w.heap.size + 1 + 1) u #[c] := by
    have := Blk.new ((w.alloc (.cells #[a] s)).alloc (.cells #[b] t)) u #[c]
    rwa [hs] at this
  have hk := one_step ((w.alloc (.cells #[a] s)).alloc (.cells #[b] t)) (.cells #[c] u)
  exact ⟨h1.trans (hk.mono (by rw [hs]; omega)), (Below.cell hk (World.block_lt_of_cell? _ _ h2)).trans h2, (Below.cell hk (World.block_lt_of_cell? _ _ h3)).trans h3, (Blk.cell h4 0).trans rfl⟩

set_option maxRecDepth 100000 in
set_option maxHeartbeats 1000000 in
theorem Fs_Rename_mem (h : FsMem w G S F) (hok : S.ok) (hs : S.steps ≤ 500000) (l k : List UInt8) (hl : l.length ≤ 1048576) (hk : k.length ≤ 1048576) :
    Calls Try.prog 44 #[.pointer (some ⟨G, 0, none⟩), .string (bs l), .string (bs k)] w fun e w' => Did w w' G F e (S.rename l k) := by
  have hG := h.lt _ h.gG
  have q : ∀ W, FsMem W G S F → Calls Try.prog 23 #[.pointer (some ⟨G, 0, none⟩), .string (bs l)] W fun e w' => e = .returned (ofVal (S.of l)) ∧ W = w' := fun W hW => Fs_of_mem hW l hl
  have qr := Lib.hid (right_any k)
  have HA := Lib.hid (h.below (boxes2 w (.string (bs l)) (.string (bs k)) 9 9).1)
  have stay : ∀ v r, Did w (((w.alloc (.cells #[.string (bs l)] 9)).alloc (.cells #[.string (bs k)] 9)).alloc (.cells #[v] 50)) G F (.returned (.int .i64 r)) (S, r) := fun v r =>
    did_none (h.below (boxes3 w _ _ v _ _ _).1) (boxes3 w _ _ v _ _ _).1 r
  have N0 := Lib.hid stay
  have qm : ∀ g, S.names.at l = some g → Calls Try.prog 25 #[.pointer (some ⟨G, 0, none⟩), .func (.func 59) #[] #[.pointer (some ⟨w.heap.size, 0, none⟩), .pointer (some ⟨w.heap.size + 1 + 1, 0, none⟩), .pointer (some ⟨w.heap.size + 1, 0, none⟩)]]
      (((w.alloc (.cells #[.string (bs l)] 9)).alloc (.cells #[.string (bs k)] 9)).alloc (.cells #[.pointer (some ⟨g, 0, none⟩)] 50)) fun e w' => Did w w' G F e (S.step fun T => T.moved ((T.names.del l).put k g)) := fun g hg => by
    obtain ⟨e1, e2, e3, e4⟩ := boxes3 w (.string (bs l)) (.string (bs k)) (.pointer (some ⟨g, 0, none⟩)) 9 9 50
    exact Rename_step (h.below e1) hok hs l k hl hk hg e1 e2 e4 e3 (by omega) (by omega) (by omega)
  unfold FsS.rename
  rcases S.of_cases l with ⟨h1, h2⟩ | ⟨h1, h2, h3⟩ | ⟨g, h1, h2, h3⟩
  · rw [h1] at q ⊢
    simp only [ofVal] at q ⊢
    have Q := Lib.hid q
    clear q stay qm
    go_enter Try.func44, Try.ntmps44
    go_wp2_with fail
    refine (Q.out _ HA.out).mono ?_
    rintro e w' ⟨rfl, rfl⟩
    go_wp2
    go_ret
    exact N0.out _ _
  · rw [h1] at q ⊢
    simp only [ofVal] at q ⊢
    have Q := Lib.hid q
    clear q stay qm
    go_enter Try.func44, Try.ntmps44
    go_wp2_with fail
    refine (Q.out _ HA.out).mono ?_
    rintro e w' ⟨rfl, rfl⟩
    go_wp2
    go_ret
    exact N0.out _ _
  · rw [h1] at q ⊢
    have QM := Lib.hid (qm g h3)
    simp only [ofVal] at q ⊢
    have Q := Lib.hid q
    clear q stay qm
    cases hr : rightN k with
    | false =>
      rw [show (!k.isEmpty && decide (k.length ≤ 40)) = false from hr] at qr
      go_enter Try.func44, Try.ntmps44
      go_wp2_with fail
      refine (Q.out _ HA.out).mono ?_
      rintro e w' ⟨rfl, rfl⟩
      go_wp2_with fail
      refine (qr.out _).mono ?_
      rintro e w' ⟨rfl, rfl⟩
      go_wp2
      go_ret
      exact N0.out _ _
    | true =>
      rw [show (!k.isEmpty && decide (k.length ≤ 40)) = true from hr] at qr
      go_enter Try.func44, Try.ntmps44
      go_wp2_with fail
      refine (Q.out _ HA.out).mono ?_
      rintro e w' ⟨rfl, rfl⟩
      go_wp2_with fail
      refine (qr.out _).mono ?_
      rintro e w' ⟨rfl, rfl⟩
      go_wp2_with fail
      refine QM.out.mono ?_
      intro e w' hd
      have hR := Lib.hid hd
      obtain rfl := hd.form
      clear hd
      go_wp2
      go_ret
      exact hR.out
end
end Go.Proofs.Ytocfaffiifhggaa
