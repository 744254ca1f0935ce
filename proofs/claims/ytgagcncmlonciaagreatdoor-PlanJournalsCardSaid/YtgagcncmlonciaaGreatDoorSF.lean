/- Files on a machine: what the closures do to the names. Files on a machine, in plain words: names, files, and what each call makes of them. -/
import Derived.Test.YtgagcncmlonciaaGreatDoorSimE
import Derived.Sort.KeysCollected
import Derived.Maps.Ext
namespace Go.Proofs.YtgagcncmlonciaaGreatDoor
open Go.RowKit Go.Maps Go.WideMaps

theorem nameKey (l : List UInt8) (hl : l.length ≤ maxLen) : keyOf Tryz.prog 9 (.string (bs l)) = some (.string l) := keyOf_string_mk Tryz.underlying9 (by rw [bs_size]; exact hl)

set_option maxRecDepth 100000 in
theorem Remove_do_any {w : World} {b n p : Nat} {D : DataW Unit} (l : List UInt8) (hl : l.length ≤ maxLen) (hD : Dir w b n D) (hp : w.cell? ⟨p, 0, none⟩ = some (.string (bs l))) :
    Calls Tryz.prog 153 #[.map (some b), .pointer (some ⟨p, 0, none⟩)] w fun e w' => e = .returned (.tuple #[]) ∧ Dir w' b n (D.del (.string l)) ∧ w.mapTurned w' b := by
  unfold Dir at *
  have hkey := nameKey l hl
  go_enter Tryz.func153, Tryz.ntmps153
  go_wp2_with (at_delete; refine wpList_delete_own _ rfl _ _ 47 9 rfl 79 (string_keyed Tryz.underlying9) Tryz.underlying47 _ b n D rfl hD _ _ rfl hkey ?_; intro w1 hown1 hturn1)
  go_end0
  exact ⟨rfl, hown1, hturn1⟩

set_option maxRecDepth 100000 in
theorem Create_do_any {w : World} {b n p : Nat} {D : DataW Unit} (l : List UInt8) (hl : l.length ≤ maxLen) (hn : n < maxLen) (hD : Dir w b n D) (hp : w.cell? ⟨p, 0, none⟩ = some (.string (bs l))) :
    Calls Tryz.prog 155 #[.map (some b), .pointer (some ⟨p, 0, none⟩)] w fun e w' => e = .returned (.tuple #[]) ∧ Dir w' b (n + 1) (D.put (.string l) (.lit (.int .u64 (w.heap.size : Int)))) ∧
      FileAt w' w.heap.size [] [] (.slice none 0 0) ∧ w.grownBy w' (some b) := by
  unfold Dir at *
  have hkey := nameKey l hl
  have hlt := hD.lt
  go_enter Tryz.func155, Tryz.ntmps155
  go_wp2_with (at_mapUpdate; refine wpList_mapUpdate_own _ rfl _ _ _ 47 rfl 9 79 (string_keyed Tryz.underlying9) Tryz.underlying47 ptrR b n D rfl (hD.alloc _) hn _ _ _ rfl rfl hkey (.lit (.int .u64 (w.heap.size : Int))) [] rfl ?_; intro w1 hown1 hgrow1)
  go_end0
  refine ⟨rfl, hown1, ?_, grown_trans' (World.grownBy_alloc w _ _) hgrow1⟩
  exact Blk.grown (Blk.new w _ _) hgrow1 (by simp; omega)

set_option maxRecDepth 100000 in
theorem Fs_Read_any {w : World} {G nb sb : Nat} {mv : Value} {room steps fuse : Int} {n g : Nat} {D : DataW Unit} {synced now : List UInt8} {ch : Value} (l : List UInt8) (hl : l.length ≤ maxLen) (h : FsAt w G nb sb mv room steps fuse false) (hD : Dir w nb n D)
    (hh : Maps.has D (.string l) = true) (ha : D.atKey (.string l) .nil = .lit (.int .u64 (g : Int))) (hF : FileAt w g synced now ch) :
    Calls Tryz.prog 10 #[.pointer (some ⟨G, 0, none⟩), .string (bs l)] w fun e w' => e = .returned (.tuple #[.string (bs now), .int .i64 0]) ∧ w = w' := by
  obtain ⟨c0, c1, c2⟩ := hF.c
  have q := Lib.hid (Fs_of_any D l hl h hD)
  go_enter Tryz.func10, Tryz.ntmps10
  go_wp2_with fail
  refine q.out.mono ?_
  rintro e w1 ⟨⟨v, rfl, hv⟩, rfl⟩
  unfold ofV at hv
  rw [if_neg (by simp), if_neg (by simp [hh])] at hv
  obtain ⟨x, ps, hx, rfl⟩ := hv
  rw [ha] at hx
  obtain ⟨g', hg, rfl⟩ := ptrR_lit hx
  obtain rfl : g = g' := by omega
  go_wp2
  go_ret2
  exact ⟨rfl, rfl⟩
end Go.Proofs.YtgagcncmlonciaaGreatDoor
namespace Go.Proofs.YtgagcncmlonciaaGreatDoor
open Go.RowKit Go.Maps Go.WideMaps

/-- Names, each with the number of its file. -/
abbrev Nm := List (List UInt8 × Nat)
def Nm.ent (p : List UInt8 × Nat) : Lit × DataW Unit := (.string p.1, .lit (.int .u64 (p.2 : Int)))
def Nm.data (N : Nm) : DataW Unit := .map (N.map Nm.ent)
def Nm.at (N : Nm) (l : List UInt8) : Option Nat := (N.find? fun p => p.1 == l).map (·.2)
def Nm.del (N : Nm) (l : List UInt8) : Nm := N.filter fun p => !(p.1 == l)
def Nm.ins (x : List UInt8 × Nat) : Nm → Nm
  | [] => [x]
  | y :: r => if bytesBefore x.1 y.1 then x :: y :: r else y :: Nm.ins x r
def Nm.put (N : Nm) (l : List UInt8) (g : Nat) : Nm := Nm.ins (l, g) (N.del l)
def Nm.keys (N : Nm) : List (List UInt8) := N.map (·.1)
def Nm.ids (N : Nm) : List Nat := N.map (·.2)
/-- Each name once, in order; each file once. -/
structure Nm.ok (N : Nm) : Prop where
  sorted : N.Pairwise fun p q => bytesBefore p.1 q.1 = true
  apart : N.Pairwise fun p q => p.2 ≠ q.2
  len : ∀ p ∈ N, p.1.length ≤ 40

theorem same_str (a b : List UInt8) : (Lit.string a).sameKey (.string b) = (a == b) := rfl

theorem Nm.data_del (N : Nm) (l : List UInt8) : (N.del l).data = N.data.del (.string l) := by
  unfold Nm.data Nm.del DataW.del
  simp only [List.filter_map]
  rfl

theorem Nm.map_ins (x : List UInt8 × Nat) : ∀ N : Nm, (Nm.ins x N).map Nm.ent = DataW.insert (Nm.ent x) (N.map Nm.ent)
  | [] => rfl
  | y :: r => by
    unfold Nm.ins
    rw [List.map_cons]
    unfold DataW.insert
    show _ = if bytesBefore x.1 y.1 = true then _ else _
    split
    · rfl
    · rw [List.map_cons, Nm.map_ins x r]

theorem Nm.data_put (N : Nm) (l : List UInt8) (g : Nat) : (N.put l g).data = N.data.put (.string l) (.lit (.int .u64 (g : Int))) := by
  unfold Nm.put Nm.data
  rw [Nm.map_ins]
  unfold Nm.del DataW.put
  simp only [List.filter_map]
  rfl

theorem Nm.has_data (N : Nm) (l : List UInt8) : Maps.has N.data (.string l) = (N.at l).isSome := by
  show (N.map Nm.ent).any _ = _
  unfold Nm.at
  rw [Option.isSome_map, List.any_map]
  induction N with
  | nil => rfl
  | cons p N ih =>
    rw [List.any_cons, List.find?_cons, ih]
    show ((p.1 == l) || _) = _
    cases h : (p.1 == l) <;> simp

theorem Nm.atKey_data (N : Nm) (l : List UInt8) (z : DataW Unit) : N.data.atKey (.string l) z = match N.at l with | some g => .lit (.int .u64 (g : Int)) | none => z := by
  unfold Nm.data DataW.atKey Nm.at
  induction N with
  | nil => rfl
  | cons p N ih =>
    simp only [] at ih ⊢
    rw [List.map_cons, List.find?_cons, List.find?_cons]
    have e : (Nm.ent p).1.sameKey (.string l) = (p.1 == l) := rfl
    rw [e]
    cases h : (p.1 == l)
    · simpa using ih
    · rfl

theorem Nm.size_data (N : Nm) : Maps.size N.data = N.length := by
  show (N.map Nm.ent).length = _
  simp

theorem Nm.keys_data (N : Nm) : strKeys N.data = N.keys := by
  show (N.map Nm.ent).map _ = N.map _
  rw [List.map_map]
  rfl

theorem Nm.mem_at {N : Nm} {l : List UInt8} {g : Nat} (h : N.at l = some g) : (l, g) ∈ N := by
  unfold Nm.at at h
  obtain ⟨p, hp, rfl⟩ := Option.map_eq_some_iff.1 h
  have h1 := List.find?_some hp
  have h2 := List.mem_of_find?_eq_some hp
  have : p.1 = l := by simpa using h1
  rw [← this]
  exact h2

theorem Nm.at_none {N : Nm} {l : List UInt8} (h : N.at l = none) : ∀ p ∈ N, p.1 ≠ l := by
  unfold Nm.at at h
  intro p hp e
  have := List.find?_eq_none.1 (Option.map_eq_none_iff.1 h) p hp
  simp [e] at this

theorem Nm.mem_ins (x y : List UInt8 × Nat) : ∀ N : Nm, y ∈ Nm.ins x N ↔ y = x ∨ y ∈ N
  | [] => by simp [Nm.ins]
  | z :: r => by
    unfold Nm.ins
    split
    · simp
    · simp only [List.mem_cons, Nm.mem_ins x y r]
      exact ⟨fun h => by rcases h with h | h | h <;> simp [h], fun h => by rcases h with h | h | h <;> simp [h]⟩
theorem Nm.length_ins (x : List UInt8 × Nat) : ∀ N : Nm, (Nm.ins x N).length = N.length + 1
  | [] => rfl
  | z :: r => by
    unfold Nm.ins
    split
    · rfl
    · simp [Nm.length_ins x r]
theorem Nm.mem_del {N : Nm} {l : List UInt8} {y : List UInt8 × Nat} : y ∈ N.del l ↔ y ∈ N ∧ y.1 ≠ l := by
  unfold Nm.del
  simp [List.mem_filter]
theorem Nm.mem_put {N : Nm} {l : List UInt8} {g : Nat} {y : List UInt8 × Nat} : y ∈ N.put l g ↔ y = (l, g) ∨ (y ∈ N ∧ y.1 ≠ l) := by
  unfold Nm.put
  rw [Nm.mem_ins, Nm.mem_del]

theorem Nm.ins_sorted {x : List UInt8 × Nat} : ∀ {N : Nm}, (N.Pairwise fun p q => bytesBefore p.1 q.1 = true) → (∀ p ∈ N, p.1 ≠ x.1) → (Nm.ins x N).Pairwise fun p q => bytesBefore p.1 q.1 = true
  | [], _, _ => by simp [Nm.ins]
  | y :: r, h, hne => by
    unfold Nm.ins
    obtain ⟨h1, h2⟩ := List.pairwise_cons.1 h
    split
    · rename_i hb
      refine List.pairwise_cons.2 ⟨fun q hq => ?_, h⟩
      rcases List.mem_cons.1 hq with rfl | hq
      · exact hb
      · exact WideShapes.bytes_trans _ _ _ hb (h1 q hq)
    · rename_i hb
      have hb' : bytesBefore y.1 x.1 = true := (WideAt.bytes_total y.1 x.1 (hne y (by simp))).resolve_right hb
      refine List.pairwise_cons.2 ⟨fun q hq => ?_, Nm.ins_sorted h2 fun p hp => hne p (by simp [hp])⟩
      rcases (Nm.mem_ins _ _ _).1 hq with rfl | hq
      · exact hb'
      · exact h1 q hq

theorem Nm.ins_apart {x : List UInt8 × Nat} : ∀ {N : Nm}, (N.Pairwise fun p q => p.2 ≠ q.2) → (∀ p ∈ N, p.2 ≠ x.2) → (Nm.ins x N).Pairwise fun p q => p.2 ≠ q.2
  | [], _, _ => by simp [Nm.ins]
  | y :: r, h, hne => by
    unfold Nm.ins
    obtain ⟨h1, h2⟩ := List.pairwise_cons.1 h
    split
    · exact List.pairwise_cons.2 ⟨fun q hq => (hne q hq).symm, h⟩
    · refine List.pairwise_cons.2 ⟨fun q hq => ?_, Nm.ins_apart h2 fun p hp => hne p (by simp [hp])⟩
      rcases (Nm.mem_ins _ _ _).1 hq with rfl | hq
      · exact hne y (by simp)
      · exact h1 q hq

theorem Nm.ok_nil : Nm.ok [] := ⟨List.Pairwise.nil, List.Pairwise.nil, by simp⟩
theorem Nm.ok.del {N : Nm} (h : N.ok) (l : List UInt8) : (N.del l).ok := ⟨h.1.filter _, h.2.filter _, fun p hp => h.3 p (Nm.mem_del.1 hp).1⟩
theorem Nm.ok.put {N : Nm} (h : N.ok) (l : List UInt8) (g : Nat) (hl : l.length ≤ 40) (hg : ∀ p ∈ N, p.1 ≠ l → p.2 ≠ g) : (N.put l g).ok :=
  ⟨Nm.ins_sorted (h.del l).1 fun p hp => (Nm.mem_del.1 hp).2, Nm.ins_apart (h.del l).2 fun p hp => hg p (Nm.mem_del.1 hp).1 (Nm.mem_del.1 hp).2, fun p hp => by
    rcases Nm.mem_put.1 hp with rfl | hp
    · exact hl
    · exact h.3 p hp.1⟩

theorem before_irrefl (a : List UInt8) : bytesBefore a a ≠ true := by rw [WideAt.bytes_irrefl]; simp

theorem Nm.at_of_mem {N : Nm} (h : N.ok) {l : List UInt8} {g : Nat} (hm : (l, g) ∈ N) : N.at l = some g := by
  have h1 := h.1
  clear h
  induction N with
  | nil => cases hm
  | cons p N ih =>
    unfold Nm.at
    rw [List.find?_cons]
    obtain ⟨h2, h3⟩ := List.pairwise_cons.1 h1
    rcases List.mem_cons.1 hm with rfl | hm
    · simp
    · have : (p.1 == l) = false := by
        have := h2 _ hm
        simp only [beq_eq_false_iff_ne, ne_eq]
        intro e
        rw [e] at this
        exact before_irrefl _ this
      rw [this]
      exact ih hm h3

theorem Nm.at_del_same (N : Nm) (l : List UInt8) : (N.del l).at l = none := by
  unfold Nm.at
  rw [Option.map_eq_none_iff, List.find?_eq_none]
  intro p hp
  simpa using (Nm.mem_del.1 hp).2
theorem Nm.at_del_other (N : Nm) {l k : List UInt8} (h : k ≠ l) : (N.del l).at k = N.at k := by
  unfold Nm.at Nm.del
  congr 1
  exact find_filter_keep (fun p hp => by simp at hp; simp [hp, h]) N
theorem Nm.find_ins_hit (x : List UInt8 × Nat) : ∀ N : Nm, (∀ p ∈ N, p.1 ≠ x.1) → (Nm.ins x N).find? (fun p => p.1 == x.1) = some x
  | [], _ => by simp [Nm.ins]
  | y :: r, h => by
    unfold Nm.ins
    split
    · simp
    · have := h y (by simp)
      simp [this, Nm.find_ins_hit x r fun p hp => h p (by simp [hp])]
theorem Nm.find_ins_miss (x : List UInt8 × Nat) {k : List UInt8} (hk : x.1 ≠ k) : ∀ N : Nm, (Nm.ins x N).find? (fun p => p.1 == k) = N.find? (fun p => p.1 == k)
  | [] => by simp [Nm.ins, hk]
  | y :: r => by
    unfold Nm.ins
    split
    · simp [hk]
    · rw [List.find?_cons, List.find?_cons, Nm.find_ins_miss x hk r]
theorem Nm.at_put_same (N : Nm) (l : List UInt8) (g : Nat) : (N.put l g).at l = some g := by
  unfold Nm.at Nm.put
  rw [Nm.find_ins_hit (l, g) _ fun p hp => (Nm.mem_del.1 hp).2]
  rfl
theorem Nm.at_put_other (N : Nm) {l k : List UInt8} (g : Nat) (h : k ≠ l) : (N.put l g).at k = N.at k := by
  rw [← Nm.at_del_other N h]
  unfold Nm.at Nm.put
  rw [Nm.find_ins_miss (l, g) h.symm]
theorem Nm.at_ids {N : Nm} {l : List UInt8} {g : Nat} (h : N.at l = some g) : g ∈ N.ids := List.mem_map.2 ⟨_, Nm.mem_at h, rfl⟩
theorem Nm.length_del_le (N : Nm) (l : List UInt8) : (N.del l).length ≤ N.length := List.length_filter_le _ _
theorem Nm.length_del {N : Nm} {l : List UInt8} (h : N.at l ≠ none) : (N.del l).length + 1 ≤ N.length := by
  cases hg : N.at l with
  | none => exact absurd hg h
  | some g =>
    have hm := Nm.mem_at hg
    have : (N.del l).length < N.length := by
      unfold Nm.del
      rw [List.length_filter_lt_length_iff_exists]
      exact ⟨_, hm, by simp⟩
    exact this
theorem Nm.length_put_le (N : Nm) (l : List UInt8) (g : Nat) : (N.put l g).length ≤ N.length + 1 := by
  unfold Nm.put
  rw [Nm.length_ins]
  have := N.length_del_le l
  omega

/-! ### files -/
structure Fl where
  sy : List UInt8
  nw : List UInt8
  ch : List Chg
def Fl.new : Fl := ⟨[], [], []⟩
def replay : List Chg → List UInt8 → List UInt8
  | [], s => s
  | c :: cs, s => replay cs (c.to s)
theorem replay_snoc (cs : List Chg) (c : Chg) (s : List UInt8) : replay (cs ++ [c]) s = c.to (replay cs s) := by
  induction cs generalizing s with
  | nil => rfl
  | cons d cs ih => exact ih _
/-- Each change fits what it comes to; all on the way is at most B bytes long. -/
def Fits (B : Nat) : List Chg → List UInt8 → Prop
  | [], s => s.length ≤ B
  | c :: cs, s => s.length ≤ B ∧ (∀ n, c = .cut n → n ≤ s.length) ∧ Fits B cs (c.to s)
theorem Fits.head {B : Nat} : ∀ {cs : List Chg} {s : List UInt8}, Fits B cs s → s.length ≤ B
  | [], _, h => h
  | _ :: _, _, h => h.1
theorem Fits.last {B : Nat} : ∀ {cs : List Chg} {s : List UInt8}, Fits B cs s → (replay cs s).length ≤ B
  | [], _, h => h
  | _ :: _, _, h => h.2.2.last
theorem Fits.mono {B B' : Nat} (hb : B ≤ B') : ∀ {cs : List Chg} {s : List UInt8}, Fits B cs s → Fits B' cs s
  | [], _, h => Nat.le_trans h hb
  | _ :: _, _, h => ⟨Nat.le_trans h.1 hb, h.2.1, h.2.2.mono hb⟩
theorem Fits.snoc {B : Nat} {c : Chg} : ∀ {cs : List Chg} {s : List UInt8}, Fits B cs s → (∀ n, c = .cut n → n ≤ (replay cs s).length) → (c.to (replay cs s)).length ≤ B → Fits B (cs ++ [c]) s
  | [], _, h, h1, h2 => ⟨h, h1, h2⟩
  | _ :: _, _, h, h1, h2 => ⟨h.1, h.2.1, h.2.2.snoc h1 h2⟩
theorem Fits.take {B : Nat} : ∀ {cs : List Chg} {s : List UInt8} (k : Nat), Fits B cs s → (replay (cs.take k) s).length ≤ B
  | [], s, k, h => by rw [List.take_nil]; exact h
  | _ :: _, _, 0, h => h.1
  | _ :: _, _, k + 1, h => h.2.2.take k

def Chg.part : Chg → List UInt8 → Nat → List UInt8
  | .app a, s, n => s ++ a.take (n % (a.length + 1))
  | .cut _, s, _ => s
theorem Chg.part_le (c : Chg) (s : List UInt8) (n B : Nat) (h1 : s.length ≤ B) (h2 : (c.to s).length ≤ B) : (c.part s n).length ≤ B := by
  cases c with
  | app a => simp only [Chg.part, Chg.to, List.length_append, List.length_take] at *; omega
  | cut n => exact h1

structure Fl.ok (B n : Nat) (x : Fl) : Prop where
  fits : Fits B x.ch x.sy
  now : replay x.ch x.sy = x.nw
  count : x.ch.length ≤ n
theorem Fl.ok.nw_le {B n : Nat} {x : Fl} (h : x.ok B n) : x.nw.length ≤ B := h.now ▸ h.fits.last
theorem Fl.ok.mono {B B' n n' : Nat} {x : Fl} (h : x.ok B n) (hb : B ≤ B') (hn : n ≤ n') : x.ok B' n' := ⟨h.fits.mono hb, h.now, Nat.le_trans h.count hn⟩
def Fl.do (x : Fl) (c : Chg) : Fl := ⟨x.sy, c.to x.nw, x.ch ++ [c]⟩
theorem Fl.ok.do {B B' n : Nat} {x : Fl} (h : x.ok B n) (c : Chg) (hb : B ≤ B') (h1 : ∀ n, c = .cut n → n ≤ x.nw.length) (h2 : (c.to x.nw).length ≤ B') : (x.do c).ok B' (n + 1) :=
  ⟨(h.fits.mono hb).snoc (by rw [h.now]; exact h1) (by rw [h.now]; exact h2), by show replay (x.ch ++ [c]) x.sy = _; rw [replay_snoc, h.now]; rfl, by show (x.ch ++ [c]).length ≤ _; have := h.count; simp; omega⟩
def Fl.sync (x : Fl) : Fl := ⟨x.nw, x.nw, []⟩
theorem Fl.ok.sync {B n : Nat} {x : Fl} (h : x.ok B n) : x.sync.ok B n := ⟨h.nw_le, rfl, Nat.zero_le _⟩
theorem Fl.ok_new (B n : Nat) : Fl.new.ok B n := ⟨Nat.zero_le _, rfl, Nat.zero_le _⟩
/-- What survives of a file. -/
def Fl.left (x : Fl) (k n : Nat) : List UInt8 :=
  match x.ch[k % (x.ch.length + 1)]? with
  | some c => c.part (replay (x.ch.take (k % (x.ch.length + 1))) x.sy) n
  | none => replay (x.ch.take (k % (x.ch.length + 1))) x.sy
def Fl.survive (x : Fl) (k n : Nat) : Fl := ⟨x.left k n, x.left k n, []⟩
theorem replay_take_succ {cs : List Chg} {k : Nat} {c : Chg} (h : cs[k]? = some c) (s : List UInt8) : replay (cs.take (k + 1)) s = c.to (replay (cs.take k) s) := by
  rw [List.take_add_one, h]
  exact replay_snoc _ _ _
theorem Fl.ok.left_le {B n : Nat} {x : Fl} (h : x.ok B n) (k m : Nat) : (x.left k m).length ≤ B := by
  unfold Fl.left
  split
  · rename_i c hc
    refine Chg.part_le c _ _ B (h.fits.take _) ?_
    rw [← replay_take_succ hc]
    exact h.fits.take _
  · exact h.fits.take _
theorem Fl.ok.survive {B n : Nat} {x : Fl} (h : x.ok B n) (k m : Nat) : (x.survive k m).ok B n := ⟨h.left_le k m, rfl, Nat.zero_le _⟩
theorem Fl.survive_still {x : Fl} (h : x.ch = []) (k m : Nat) : x.left k m = x.sy := by
  unfold Fl.left
  rw [h]
  simp [replay]

/-! ### the machine -/
structure FsS where
  names : Nm
  synced : Nm
  moves : List Nm
  fl : Nat → Fl
  room : Int
  steps : Nat
  fuse : Int
  dead : Bool

def FsS.dirs (S : FsS) : List Nm := S.names :: S.synced :: S.moves
def FsS.live (S : FsS) (g : Nat) : Prop := ∃ N ∈ S.dirs, g ∈ Nm.ids N
/-- How long a file may be, behind so many steps. -/
def bytesMost (n : Nat) : Nat := n * 1048576

structure FsS.ok (S : FsS) : Prop where
  room : 0 ≤ S.room
  fuse1 : -1 ≤ S.fuse
  fuse2 : S.fuse ≤ 1073741824
  moves : S.moves.length ≤ S.steps
  dirs : ∀ N ∈ S.dirs, Nm.ok N ∧ N.length ≤ 64
  files : ∀ g, (S.fl g).ok (bytesMost S.steps) S.steps

def FsS.setFl (S : FsS) (g : Nat) (x : Fl) : FsS := { S with fl := fun k => if k = g then x else S.fl k }
def FsS.tick (S : FsS) : FsS := { S with fuse := max (S.fuse - 1) (-1), steps := S.steps + 1 }
def FsS.die (S : FsS) : FsS := { S with dead := true }
def FsS.step (S : FsS) (f : FsS → FsS) : FsS × Int := if S.fuse = 0 then (S.die, 13) else (f S.tick, 0)
def FsS.moved (S : FsS) (N : Nm) : FsS := { S with names := N, moves := S.moves ++ [N] }

def rightN (l : List UInt8) : Bool := !l.isEmpty && decide (l.length ≤ 40)
def sizeIn (fl : Nat → Fl) (N : Nm) : Nat := (N.map fun p => (fl p.2).nw.length).sum
def FsS.size (S : FsS) : Nat := sizeIn S.fl S.names

/-- Why a call is not done; the file, else. -/
def FsS.of (S : FsS) (l : List UInt8) : Nat ⊕ Int := if S.dead then .inr 13 else match S.names.at l with | none => .inr 11 | some g => .inl g

def FsS.create (S : FsS) (l : List UInt8) (g : Nat) : FsS × Int :=
  if S.dead then (S, 13) else if rightN l = false then (S, 1) else if (S.names.at l).isSome then (S, 12) else if 64 ≤ S.names.length then (S, 7) else S.step fun T => T.moved (T.names.put l g)
def FsS.append (S : FsS) (l b : List UInt8) : FsS × Int := match S.of l with
  | .inr e => (S, e)
  | .inl g => if S.room < (S.size : Int) + b.length then (S, 8) else S.step fun T => T.setFl g ((T.fl g).do (.app b))
def FsS.cut (S : FsS) (l : List UInt8) (n : Int) : FsS × Int := match S.of l with
  | .inr e => (S, e)
  | .inl g => if n < 0 ∨ ((S.fl g).nw.length : Int) < n then (S, 1) else S.step fun T => T.setFl g ((T.fl g).do (.cut n.toNat))
def FsS.sync (S : FsS) (l : List UInt8) : FsS × Int := match S.of l with
  | .inr e => (S, e)
  | .inl g => S.step fun T => T.setFl g (T.fl g).sync
def FsS.syncDir (S : FsS) : FsS × Int := if S.dead then (S, 13) else S.step fun T => { T with synced := T.names, moves := [] }
def FsS.rename (S : FsS) (a b : List UInt8) : FsS × Int := match S.of a with
  | .inr e => (S, e)
  | .inl g => if rightN b = false then (S, 1) else S.step fun T => T.moved ((T.names.del a).put b g)
def FsS.remove (S : FsS) (l : List UInt8) : FsS × Int := match S.of l with
  | .inr e => (S, e)
  | .inl _ => S.step fun T => T.moved (T.names.del l)
def FsS.read (S : FsS) (l : List UInt8) : List UInt8 × Int := match S.of l with
  | .inr e => ([], e)
  | .inl g => ((S.fl g).nw, 0)
def FsS.setRoom (S : FsS) (n : Int) : FsS := { S with room := max n 0 }
def FsS.setFuse (S : FsS) (n : Int) : FsS := { S with fuse := min (max n (-1)) 1073741824 }
def FsS.new (room : Int) : FsS := ⟨[], [], [], fun _ => Fl.new, max room 0, 0, -1, false⟩

def crashFl (ks : List Int) : Nat → Nm → (Nat → Fl) → Nat → Fl
  | _, [], fl => fl
  | i, p :: N, fl => crashFl ks (i + 1) N fun k => if k = p.2 then (fl p.2).survive (keptN ks (1 + 2 * i)) (keptN ks (2 + 2 * i)) else fl k
def FsS.crashDir (S : FsS) (ks : List Int) : Nm := match keptN ks 0 % (S.moves.length + 1) with
  | 0 => S.synced
  | n + 1 => S.moves.getD n []
def FsS.crash (S : FsS) (ks : List Int) : FsS :=
  { S with names := S.crashDir ks, synced := S.crashDir ks, moves := [], dead := false, fuse := -1, fl := crashFl ks 0 (S.crashDir ks) S.fl }
end Go.Proofs.YtgagcncmlonciaaGreatDoor
