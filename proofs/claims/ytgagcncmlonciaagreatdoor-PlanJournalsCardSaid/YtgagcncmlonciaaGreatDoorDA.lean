/- Files that are written as a whole: the smaller calls. -/
import Derived.Test.YtgagcncmlonciaaGreatDoorMach
namespace Go.Proofs.YtgagcncmlonciaaGreatDoor
open Go.RowKit Go.Maps Go.WideMaps Go.ChangeShapes Go.WideShapes
attribute [local go_sem] bs_toList bs_size

def tmpB : List UInt8 := [116, 109, 112, 45]

set_option maxRecDepth 100000 in
theorem DTemp_any (l : List UInt8) (w : World) (h : l.length ≤ 1048576) : Calls Tryz.prog 86 #[.string (bs l)] w fun e w' => e = .returned (.string (bs (tmpB ++ l))) ∧ w = w' := by
  have h1 : ∀ W, (Op.stringOp .add (⟨#[116, 109, 112, 45]⟩ : ByteArray) (bs l)).run Tryz.prog W = .ok (.string (bs (tmpB ++ l))) W := fun W => run_add_bs (P := Tryz.prog) tmpB l (by simp [tmpB]; omega) W
  go_enter Tryz.func86, Tryz.ntmps86
  go_wp2
  go_ret
  exact ⟨rfl, rfl⟩

def AtFirst (l : List (List UInt8)) (x : List UInt8) (w : World) (e : Ending) (w' : World) : Prop := ∃ r : Int, e = .returned (.int .i64 r) ∧ decide (0 ≤ r) = decide (x ∈ l) ∧ w = w'

set_option maxRecDepth 100000 in
theorem Index_any {w : World} {v : Value} {l : List (List UInt8)} (x : List UInt8) (h : StrsAt w v l) : Calls Tryz.prog 160 #[v, .string (bs x)] w (AtFirst l x w) := by
  obtain ⟨sa, sc, rfl, hl, hx⟩ := h
  unfold maxLen at hl
  generalize hn : l.length = n at *
  have HN := Lib.hid hn
  have HX := Lib.hid hx
  clear hn hx
  go_enter Tryz.func160, Tryz.ntmps160
  go_wp2_with fail
  go_loop [8] (fun i => ∃ j : Nat, j ≤ n ∧ i = .int .i64 (j : Int) ∧ x ∉ l.take j) (fun i => n - (intOf i).toNat)
  case atStart => exact ⟨0, Nat.zero_le _, rfl, by simp⟩
  obtain ⟨j, hj, rfl, hno⟩ := hrel
  have HNO := Lib.hid hno
  clear hno
  rcases (show j < n ∨ j = n by omega) with hjn | rfl
  · have hjl : j < l.length := by rw [HN.out]; exact hjn
    obtain ⟨b, o, rfl, d1, _⟩ := HX.out j l[j] (List.getElem?_eq_getElem hjl)
    have HM := Lib.hid (List.getElem_mem hjl)
    have HT := Lib.hid (show l.take (j + 1) = l.take j ++ [l[j]] by rw [List.take_succ_eq_append_getElem hjl])
    generalize l[j] = y at *
    clear hjl
    by_cases hxy : x = y
    · subst hxy
      have e1 : (x == x) = true := by simp
      go_wp2
      go_ret
      exact ⟨(j : Int), rfl, by simp [HM.out], rfl⟩
    · have e1 : (x == y) = false := by simpa using hxy
      have HXY := Lib.hid hxy
      clear hxy
      go_wp2
      go_round
      case rel => exact ⟨j + 1, by omega, by go_num, by
        rw [HT.out]
        intro hm
        rcases List.mem_append.1 hm with hm | hm
        · exact HNO.out hm
        · simp at hm
          exact HXY.out hm⟩
      case measure => simp [intOf]; omega
  · go_wp2
    go_ret
    refine ⟨-1, rfl, ?_, rfl⟩
    have := HNO.out
    rw [List.take_of_length_le (by rw [HN.out]; exact Nat.le_refl _)] at this
    simp [this]

set_option maxRecDepth 100000 in
theorem Contains_any {w : World} {v : Value} {l : List (List UInt8)} (x : List UInt8) (h : StrsAt w v l) : Calls Tryz.prog 101 #[v, .string (bs x)] w fun e w' => e = .returned (.bool (decide (x ∈ l))) ∧ w = w' := by
  have q := Lib.hid (Index_any x h)
  go_enter Tryz.func101, Tryz.ntmps101
  go_wp2_with fail
  refine q.out.mono ?_
  rintro e w' ⟨r, rfl, hr, rfl⟩
  have HR := Lib.hid hr
  clear hr
  go_wp2
  go_ret
  exact ⟨by rw [← HR.out]; rfl, rfl⟩

theorem mem_keys {N : Nm} {x : List UInt8} : decide (x ∈ N.keys) = (N.at x).isSome := by
  cases h : N.at x with
  | some g =>
    have : x ∈ N.keys := List.mem_map.2 ⟨_, Nm.mem_at h, rfl⟩
    simp [this]
  | none =>
    have : x ∉ N.keys := fun hx => by
      obtain ⟨p, hp, e⟩ := List.mem_map.1 hx
      exact Nm.at_none h p hp e
    simp [this]

set_option maxRecDepth 100000 in
theorem there_any {w : World} {G : Nat} {S : FsS} {F : Nat → Prop} (h : FsMem w G S F) (hok : S.ok) (x : List UInt8) :
    Calls Tryz.prog 87 #[.pointer (some ⟨G, 0, none⟩), .string (bs x)] w fun e w' => e = .returned (.bool (S.names.at x).isSome) ∧ Below w.heap.size w w' := by
  have q := Lib.hid (Fs_List_mem h hok)
  go_enter Tryz.func87, Tryz.ntmps87
  go_wp2_with fail
  refine q.out.mono ?_
  rintro e w' ⟨⟨v, rfl, hT⟩, hb⟩
  have hs : StrsAt w' v S.names.keys := hT.strs fun y hy => by
    obtain ⟨p, hp, rfl⟩ := List.mem_map.1 hy
    have := hok.names.3 p hp
    unfold maxLen
    omega
  have q2 := Lib.hid (Contains_any x hs)
  clear hT hs q
  go_wp2_with fail
  refine q2.out.mono ?_
  rintro e w2 ⟨rfl, rfl⟩
  go_wp2
  go_ret
  exact ⟨by rw [mem_keys]; rfl, hb⟩

/-- What 'first' comes to. -/
def FirstPost (I : World → Prop) (Err : Int → World → Prop) (e : Ending) (w' : World) : Prop := ∃ r : Int, e = .returned (.int .i64 r) ∧ ((r = 0 ∧ I w') ∨ (r ≠ 0 ∧ Err r w'))

set_option maxRecDepth 100000 in
theorem first_any {w : World} (n b : Nat) (fs : Nat → FuncId) (caps : Nat → Array Value) (I : Nat → World → Prop) (Err : Int → World → Prop) (hn : n ≤ 1000) (hcell : ∀ j, j < n → ∀ w, I j w → w.cell? ⟨b, j, none⟩ = some (.func (.func (fs j)) #[] (caps j)))
    (hcf : ∀ j, j < n → ∀ W, (callFunc (fs j) (caps j)).run Tryz.prog W = .ok (.enter (fs j) (caps j)) W) (hstep : ∀ j, j < n → ∀ w, I j w → Calls Tryz.prog (fs j) (caps j) w (FirstPost (I (j + 1)) Err)) (h0 : I 0 w) :
    Calls Tryz.prog 46 #[.slice (some ⟨b, 0, none⟩) n n] w (FirstPost (I n) Err) := by
  have HC := Lib.hid hcell
  have HF := Lib.hid hcf
  have HS := Lib.hid hstep
  have H0 := Lib.hid h0
  clear hcell hcf hstep h0
  go_enter Tryz.func46, Tryz.ntmps46
  go_wp2_with fail
  go_loopw [8] (fun i wr => ∃ j : Nat, j ≤ n ∧ i = .int .i64 (j : Int) ∧ I j wr) (fun i _ => n - (intOf i).toNat)
  case atStart => exact ⟨0, Nat.zero_le _, rfl, H0.out⟩
  obtain ⟨j, hj, rfl, hI⟩ := hrel
  rcases (show j < n ∨ j = n by omega) with hjn | rfl
  · have c := HC.out j hjn wr hI
    have hf := HF.out j hjn
    have q := Lib.hid (HS.out j hjn wr hI)
    clear hI
    generalize fs j = f at *
    generalize caps j = cp at *
    go_wp2_with fail
    refine q.out.mono ?_
    rintro e w' ⟨r, rfl, hr⟩
    rcases hr with ⟨rfl, hI⟩ | ⟨hr, hE⟩
    · have HI := Lib.hid hI
      clear hI
      go_wp2
      go_roundw
      case rel => exact ⟨j + 1, by omega, by go_num, HI.out⟩
      case measure => simp [intOf]; omega
    · have e1 : (r == 0) = false := by simpa using hr
      have HE := Lib.hid (And.intro hr hE)
      clear hE hr
      go_wp2
      go_ret
      exact ⟨r, rfl, .inr HE.out⟩
  · have HI := Lib.hid hI
    clear hI
    go_wp2
    go_ret
    exact ⟨0, rfl, .inl ⟨rfl, HI.out⟩⟩
end Go.Proofs.YtgagcncmlonciaaGreatDoor
