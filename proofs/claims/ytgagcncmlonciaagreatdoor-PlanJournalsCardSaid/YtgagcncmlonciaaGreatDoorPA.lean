/- The machine of works of layer 18, and what journals tell: in plain words. What the engine stands on, where the machine is that of works: journals, heads, no changes: the walks. No changes; a segment that is a head alone: the walks. A segment that is a head alone is read: the walk. May the files be opened: the walks of magicOf and Gate, where there is no file, and where the files are those of works. What the files tell, where there is none: the walk of engine.read; structs of fourteen cells. What the files tell, where they are those of works: the walk of engine.read. A store that has nothing is made: the walks of first, sweep, and the closures of create. -/
import Derived.Test.YtgagcncmlonciaaGreatDoorGE
import Derived.Test.YtgagcncmlonciaaGreatDoorDP
namespace Go.Proofs.YtgagcncmlonciaaGreatDoor
open Go.RowKit

def metaK : List UInt8 := [109, 101, 116, 97]
def walN : List UInt8 := nameB walK 0
def jnlK : List UInt8 := [106, 111, 117, 114, 110, 97, 108]
def awalB : List UInt8 := [65, 87, 65, 76]
def ajnlB : List UInt8 := [65, 74, 78, 76]
def headW : List UInt8 := headB awalB 3 0
def metT (g : Int) : Mt := ⟨g, 1, 0, []⟩
def metB (g : Int) : List UInt8 := (putM (metT g)).1
theorem walN_eq : walN = [119, 97, 108, 45, 48, 48, 48, 48, 48, 48] := by kernel_rfl
theorem metT_valid (g : Int) (h1 : 1 ≤ g) (h2 : g ≤ 3) : validM (metT g) = true := by
  rw [validM_iff]
  unfold metT
  simp
  omega
theorem putM_met (g : Int) (h1 : 1 ≤ g) (h2 : g ≤ 3) : putM (metT g) = (metB g, 0) := by
  unfold metB putM
  rw [metT_valid g h1 h2]
  rfl
theorem getM_met (g : Int) (h1 : 1 ≤ g) (h2 : g ≤ 3) : getM (metB g) = (some (metT g), 0) := getM_put _ (metT_valid g h1 h2)
theorem parse_meta : parseB metaK = ([], 0, false) := by kernel_rfl
theorem parse_wal : parseB walN = (walK, 0, true) := parse_name walK 0 (.inl rfl) (by decide) (by decide)
theorem parse_other : parseB [111, 116, 104, 101, 114] = ([], 0, false) := by kernel_rfl
/-- What begins as a head does is opened as it says. -/
theorem open_head (m : List UInt8) (g : Nat) (hg : g < 256) (r : List UInt8) : openB (headB m g 0 ++ r) m = if 3 < g then (0, 0, [], 10) else if g = 0 then (0, 0, [], 9) else (g, 0, r, 0) := by
  unfold openB headB
  have hl : (checkedB (m ++ [UInt8.ofNat g, UInt8.ofNat 0])).length = m.length + 6 := by rw [checkedB_len]; simp
  rw [if_neg (by rw [List.length_append, hl]; omega), List.take_append_of_le_length (by omega), List.take_of_length_le (by omega), List.drop_append_of_le_length (by omega), List.drop_of_length_le (by omega)]
  unfold checkedB
  rw [goodB_tail]
  have ht : (UInt8.ofNat g).toNat = g := by rw [UInt8.toNat_ofNat']; omega
  have e1 : (m ++ [UInt8.ofNat g, UInt8.ofNat 0]).getD m.length 0 = UInt8.ofNat g := by simp
  have e2 : (m ++ [UInt8.ofNat g, UInt8.ofNat 0]).getD (m.length + 1) 0 = UInt8.ofNat 0 := by simp [List.getD_eq_getElem?_getD, List.getElem?_append_right]
  simp only [List.take_left', e1, e2, ht, ne_eq, not_true_eq_false, if_false, List.nil_append]
  by_cases h3 : 3 < g
  · simp [h3]
  · by_cases h0 : g = 0
    · simp [h0]
    · simp [h3, h0]
theorem open_wal : openB headW awalB = (3, 0, [], 0) := by
  have h := open_head awalB 3 (by decide) []
  rw [List.append_nil] at h
  exact h
/-- What bytes tell as a journal. -/
def readJ (s : List UInt8) : Nat × Int := if (openB s ajnlB).2.2.2 ≠ 0 then (0, (openB s ajnlB).2.2.2) else if (openB s ajnlB).2.1 ≠ 0 ∨ (openB s ajnlB).2.2.1 ≠ [] then (0, 9) else ((openB s ajnlB).1, 0)
theorem readJ_head (g : Nat) (hg : g < 256) (r : List UInt8) : readJ (headB ajnlB g 0 ++ r) = if 3 < g then (0, 10) else if g = 0 then (0, 9) else if r = [] then (g, 0) else (0, 9) := by
  unfold readJ
  rw [open_head ajnlB g hg r]
  by_cases h3 : 3 < g
  · simp [h3]
  · by_cases h0 : g = 0
    · simp [h0]
    · by_cases hr : r = []
      · simp [h3, h0, hr]
      · simp [h3, h0, hr]
theorem readJ_nil : readJ [] = (0, 9) := by kernel_rfl
/-- A machine whose files are a segment's head and a meta, of generation 3. -/
structure FullS (S : FsS) : Prop where
  ok : S.ok
  dead : S.dead = false
  keys : S.names.keys = [metaK, walN]
  met : S.read metaK = (metB 3, 0)
  wal : S.read walN = (headW, 0)
  steps : S.steps ≤ 100
theorem full_of {g1 g2 : Nat} (hn : g2 ≠ g1) {fl : Nat → Fl} {S : FsS} (hok : S.ok)
    (h : S = ⟨(Nm.put [] walN g1).put metaK g2, (Nm.put [] walN g1).put metaK g2, [], flSet (flSet fl g1 ⟨headW, headW, []⟩) g2 ⟨metB 3, metB 3, []⟩, 10000, 10, -1, false⟩) : FullS S := by
  have hN : (Nm.put [] walN g1).put metaK g2 = [(metaK, g2), (walN, g1)] := rfl
  subst h
  refine ⟨hok, rfl, rfl, ?_, ?_, (show (10 : Nat) ≤ 100 by decide)⟩
  · unfold FsS.read FsS.of
    rw [hN]
    show (match (if false = true then (Sum.inr 13 : Nat ⊕ Int) else .inl g2) with
      | .inr e => ([], e)
      | .inl g => (_, 0)) = _
    simp [flSet]
  · unfold FsS.read FsS.of
    rw [hN]
    show (match (if false = true then (Sum.inr 13 : Nat ⊕ Int) else .inl g1) with
      | .inr e => ([], e)
      | .inl g => (_, 0)) = _
    have hn' : g1 ≠ g2 := fun e => hn e.symm
    simp [flSet, hn']
theorem read_new (l : List UInt8) : (FsS.new 10000).read l = ([], 11) := rfl
theorem sweep_new : (FsS.new 10000).sweep [] = (FsS.new 10000, 0, 0) := rfl
theorem sweep_full {S : FsS} (h : FullS S) : S.sweep [metaK, walN] = (S, 0, 0) := by
  unfold FsS.sweep
  rw [h.keys]
  have e : sweepLoop [metaK, walN] [metaK, walN] S 0 = (S, 0, 0) := by
    rw [sweepLoop_cons, if_pos (by simp), sweepLoop_cons, if_pos (by simp)]
    rfl
  rw [e]
  simp
end Go.Proofs.YtgagcncmlonciaaGreatDoor
namespace Go.Proofs.YtgagcncmlonciaaGreatDoor
open Go.RowKit
attribute [local go_sem] bs_toList bs_size

theorem results_tct {P : Program} {fn : Func} {t p u : Tmp} {ty : TypeId} (h : fn.results = #[.tmp t, .cell p ty, .tmp u]) (tmps : Array Value) (w : World) (g : Nat) (tb : TypeId) (cs : Array Value) (d : TypeDesc)
    (hp : tmps.getD p undef = .pointer (some ⟨g, 0, none⟩)) (hg : Blk w g tb cs)
    (hu : P.underlying ty = some d) (hd : (match d with | .struct _ | .array _ _ => true | _ => false) = true) (hi : (P.info? ty).map (·.size) = some cs.size) :
    (results fn tmps).run P w = .ok (.tuple #[tmps.getD t undef, .agg cs, tmps.getD u undef]) w := by
  have hp' : tmps[p]?.getD undef = .pointer (some ⟨g, 0, none⟩) := by simpa using hp
  simp [results, h, hp', asAddr, run_loadVar_row w g tb ty cs (0, 0) d hg hu hd hi]
/-- plan.Journal. -/
theorem Journal_any (g : Nat) (hg : g < 256) (w : World) :
    Calls Tryz.prog 6 #[.int .i64 (g : Int)] w fun e w' => e = .returned (.string (bs (headB ajnlB g 0))) ∧ Below w.heap.size w w' := by
  have q := Lib.hid (Head_any ajnlB g 0 hg (by decide) (by decide) w)
  have hm : (⟨#[65, 74, 78, 76]⟩ : ByteArray) = bs ajnlB := rfl
  go_enter Tryz.func6, Tryz.ntmps6
  go_wp2_with fail
  refine q.out.mono ?_
  rintro e w1 ⟨rfl, hb⟩
  go_wp2_with fail
  go_ret
  exact ⟨rfl, hb⟩
theorem open_bd (s m : List UInt8) : (openB s m).1 < 256 ∧ (openB s m).2.1 < 256 := ⟨(openB_bd s m).1, (openB_bd s m).2.1⟩
/-- plan.Read. -/
theorem JRead_any (s : List UInt8) (hl : s.length ≤ 1048576) (w : World) :
    Calls Tryz.prog 5 #[.string (bs s)] w fun e w' => e = .returned (.tuple #[.int .i64 ((readJ s).1 : Int), .int .i64 (readJ s).2]) ∧ Below w.heap.size w w' := by
  have q := Lib.hid (Open_any s ajnlB hl (by decide) w)
  have HR := Lib.hid (show readJ s = if (openB s ajnlB).2.2.2 ≠ 0 then (0, (openB s ajnlB).2.2.2) else if (openB s ajnlB).2.1 ≠ 0 ∨ (openB s ajnlB).2.2.1 ≠ [] then (0, 9) else ((openB s ajnlB).1, 0) from rfl)
  have hm : (⟨#[65, 74, 78, 76]⟩ : ByteArray) = bs ajnlB := rfl
  have hbd := open_bd s ajnlB
  rcases hO : openB s ajnlB with ⟨g, fl, rest, er⟩
  rw [hO] at q HR hbd
  simp only at HR hbd
  rw [show openV (g, fl, rest, er) = .tuple #[.int .i64 (g : Int), .int .i64 (fl : Int), .string (bs rest), .int .i64 er] from rfl] at q
  clear hO
  go_enter Tryz.func5, Tryz.ntmps5
  go_wp2_with fail
  refine q.out.mono ?_
  rintro e w1 ⟨rfl, hb⟩
  clear q
  by_cases he : er = 0
  · subst he
    by_cases hf : fl = 0
    · subst hf
      cases rest with
      | nil =>
        have HZ := Lib.hid (show readJ s = (g, 0) by rw [HR.out]; simp)
        clear HR
        go_wp2_with fail
        go_ret2
        exact ⟨by rw [HZ.out]; rfl, hb⟩
      | cons rx rr =>
        have f2 : (rx :: rr).isEmpty = false := rfl
        have HZ := Lib.hid (show readJ s = (0, 9) by rw [HR.out]; simp)
        clear HR
        go_wp2_with fail
        go_ret2
        exact ⟨by rw [HZ.out]; rfl, hb⟩
    · have hfb : ((fl : Int) != 0) = true := by simpa using hf
      have HZ := Lib.hid (show readJ s = (0, 9) by rw [HR.out]; simp [hf])
      have hf := Lib.hid hf
      clear HR
      go_wp2_with fail
      go_ret2
      exact ⟨by rw [HZ.out]; rfl, hb⟩
  · have heb : (er != 0) = true := by simpa using he
    have HZ := Lib.hid (show readJ s = (0, er) by rw [HR.out]; simp [he])
    have he := Lib.hid he
    clear HR
    go_wp2_with fail
    go_ret2
    exact ⟨by rw [HZ.out]; rfl, hb⟩
theorem known3 (w : World) : Calls Tryz.prog 80 #[.int .i64 3] w fun e w' => e = .returned (.bool true) ∧ w' = w := by
  go_enter Tryz.func80, Tryz.ntmps80
  go_wp2_with fail
  go_ret
  exact ⟨rfl, rfl⟩
set_option maxRecDepth 100000 in
/-- wal.Begin, of generation 3. -/
theorem Begin3 (w : World) : Calls Tryz.prog 37 #[.int .i64 3] w fun e w' => e = .returned (.tuple #[.string (bs headW), .agg #[.int .i64 3, .slice none 0 0], .int .i64 0]) ∧ Below w.heap.size w w' := by
  have qk := Lib.hid (fun W => known3 W)
  have hb0 := one_alloc w (.cells #[.int .i64 0, .slice none 0 0] 59)
  have hk0 : Blk (w.alloc (.cells #[.int .i64 0, .slice none 0 0] 59)) w.heap.size 59 #[.int .i64 0, .slice none 0 0] := Blk.new _ _ _
  go_enter Tryz.func37, Tryz.ntmps37
  go_wp2_with fail
  refine (qk.out _).mono ?_
  rintro e _ ⟨rfl, rfl⟩
  generalize hW0 : w.alloc (.cells #[.int .i64 0, .slice none 0 0] 59) = W0 at *
  have q := Lib.hid (Head_any awalB 3 0 (by decide) (by decide) (by decide) W0)
  have hm : (⟨#[65, 87, 65, 76]⟩ : ByteArray) = bs awalB := rfl
  go_wp2_with fail
  refine q.out.mono ?_
  rintro e w1 ⟨rfl, hb1⟩
  have hk1 := Blk.below hk0 hb1 hk0.lt
  have h1 := Blk.set_ (Blk.set_ hk1 0 (.int .i64 3)) 1 (.slice none 0 0)
  have f0 := Blk.frozen hk1 0
  have f1 := Blk.frozen hk1 1
  have c0 : w1.cell? ⟨w.heap.size, 0, none⟩ = some (.int .i64 0) := (Blk.cell hk1 0).trans rfl
  have c1 : w1.cell? ⟨w.heap.size, 1, none⟩ = some (.slice none 0 0) := (Blk.cell hk1 1).trans rfl
  have B1 := hb0.trans (hb1.mono hb0.size)
  clear qk q hk0 hb0
  go_wp2_with fail
  (try simp only [Exit.inBlock, Exit.then])
  refine bodyPost_ret (results_tct rfl _ _ w.heap.size 59 #[.int .i64 3, .slice none 0 0] _ rfl h1 Tryz.underlying59 rfl (by kernel_rfl)) rfl ?_
  exact ⟨rfl, (B1.setCell (p := ⟨w.heap.size, 0, none⟩) (Nat.le_refl _) _).setCell (p := ⟨w.heap.size, 1, none⟩) (Nat.le_refl _) _⟩
end Go.Proofs.YtgagcncmlonciaaGreatDoor
namespace Go.Proofs.YtgagcncmlonciaaGreatDoor
open Go.RowKit
attribute [local go_sem] bs_toList bs_size

theorem cells2 {W : World} {b : Nat} {T : TypeId} {u0 u1 : Value} (h : Blk W b T #[u0, u1]) : W.cell? ⟨b, 0, none⟩ = some u0 ∧ W.cell? ⟨b, 1, none⟩ = some u1 ∧ W.frozen? ⟨b, 0, none⟩ = false ∧ W.frozen? ⟨b, 1, none⟩ = false :=
  ⟨(Blk.cell h 0).trans rfl, (Blk.cell h 1).trans rfl, Blk.frozen h 0, Blk.frozen h 1⟩
set_option maxRecDepth 100000 in
/-- truth.All, of no changes. -/
theorem All_nil (a : Option Addr) (n c : Nat) (f : Int) (w : World) :
    Calls Tryz.prog 36 #[.agg #[.slice a n c, .int .i64 f], .slice none 0 0] w fun e w' => e = .returned (.tuple #[.agg #[.slice a n c, .int .i64 f], .int .i64 0]) ∧ Below w.heap.size w w' := by
  have b1 := one_alloc w (.cells #[.slice a n c, .int .i64 f] 56)
  have b2 := b1.alloc b1.size (.cells #[.slice none 0 0, .int .i64 0] 56)
  have k1 := Blk.alloc (Blk.new w 56 #[.slice a n c, .int .i64 f]) (.cells #[.slice none 0 0, .int .i64 0] 56)
  have k2 := Blk.new (w.alloc (.cells #[.slice a n c, .int .i64 f] 56)) 56 #[.slice none 0 0, .int .i64 0]
  rw [World.size_alloc] at k2
  go_enter Tryz.func36, Tryz.ntmps36
  go_upto_region 1 with fail
  generalize hW2 : (w.alloc (.cells #[.slice a n c, .int .i64 f] 56)).alloc _ = W2 at *
  clear hW2
  obtain ⟨c0, c1, _, _⟩ := cells2 k1
  obtain ⟨_, _, f0, f1⟩ := cells2 k2
  obtain ⟨d0, d1, _, _⟩ := cells2 k2
  have h2 := Blk.set_ (Blk.set_ k2 0 (.slice a n c)) 1 (.int .i64 f)
  go_wp2_with fail
  go_loopw [12] (fun i wr => i = .int .i64 0 ∧ wr = W2) (fun _ _ => 0)
  case atStart => exact ⟨rfl, rfl⟩
  obtain ⟨rfl, rfl⟩ := hrel
  go_wp2_with fail
  (try simp only [Exit.inBlock, Exit.then])
  refine bodyPost_ret (results_ct rfl _ _ (w.heap.size + 1) 56 _ _ rfl h2 Tryz.underlying56 rfl (by kernel_rfl)) rfl ?_
  exact ⟨rfl, (b2.setCell (p := ⟨w.heap.size + 1, 0, none⟩) (Nat.le_succ _) _).setCell (p := ⟨w.heap.size + 1, 1, none⟩) (Nat.le_succ _) _⟩
set_option maxRecDepth 100000 in
/-- wal.of, of a writer that knows nothing. -/
theorem of_nil (w : World) : Calls Tryz.prog 77 #[.agg #[.int .i64 0, .slice none 0 0]] w fun e w' =>
    ∃ b m, e = .returned (.pointer (some ⟨b, 0, none⟩)) ∧ w.heap.size ≤ b ∧ Blk w' b 167 #[.slice none 0 0, .map (some m)] ∧ Below w.heap.size w w' := by
  have b1 := one_alloc w (.cells #[.int .i64 0, .slice none 0 0] 59)
  have b2 := b1.alloc b1.size (.map #[] 0)
  have b3 := b2.alloc b2.size (.cells #[.slice none 0 0, .map (some (w.heap.size + 1))] 167)
  have k1 := Blk.alloc (Blk.alloc (Blk.new w 59 #[.int .i64 0, .slice none 0 0]) (.map #[] 0)) (.cells #[.slice none 0 0, .map (some (w.heap.size + 1))] 167)
  have k3 := Blk.new ((w.alloc (.cells #[.int .i64 0, .slice none 0 0] 59)).alloc (.map #[] 0)) 167 #[.slice none 0 0, .map (some (w.heap.size + 1))]
  rw [World.size_alloc, World.size_alloc] at k3
  have hmm := @run_makeMap Tryz.prog
  obtain ⟨c0, c1, _, _⟩ := cells2 k1
  go_enter Tryz.func77, Tryz.ntmps77
  go_wp2_with fail
  go_loopw [12] (fun i wr => i = .int .i64 0 ∧ wr = ((w.alloc (.cells #[.int .i64 0, .slice none 0 0] 59)).alloc (.map #[] 0)).alloc (.cells #[.slice none 0 0, .map (some (w.heap.size + 1))] 167)) (fun _ _ => 0)
  case atStart => exact ⟨rfl, rfl⟩
  obtain ⟨rfl, rfl⟩ := hrel
  go_wp2_with fail
  go_ret
  exact ⟨_, _, rfl, by omega, k3, b3⟩
/-- wal.coderOf, of generation 3. -/
theorem coder3 (b : Nat) (w : World) : Calls Tryz.prog 78 #[.int .i64 3, .pointer (some ⟨b, 0, none⟩)] w fun e w' => (∃ T v, e = .returned (.iface T v)) ∧ Below w.heap.size w w' := by
  go_enter Tryz.func78, Tryz.ntmps78
  go_wp2_with fail
  go_ret
  exact ⟨⟨_, _, rfl⟩, Below.refl _ _⟩
end Go.Proofs.YtgagcncmlonciaaGreatDoor
namespace Go.Proofs.YtgagcncmlonciaaGreatDoor
open Go.RowKit
attribute [local go_sem] bs_toList bs_size

theorem cells6 {W : World} {b : Nat} {T : TypeId} {u0 u1 u2 u3 u4 u5 : Value} (h : Blk W b T #[u0, u1, u2, u3, u4, u5]) :
    (W.cell? ⟨b, 0, none⟩ = some u0 ∧ W.cell? ⟨b, 1, none⟩ = some u1 ∧ W.cell? ⟨b, 2, none⟩ = some u2 ∧ W.cell? ⟨b, 3, none⟩ = some u3 ∧ W.cell? ⟨b, 4, none⟩ = some u4 ∧ W.cell? ⟨b, 5, none⟩ = some u5) ∧
      W.frozen? ⟨b, 0, none⟩ = false ∧ W.frozen? ⟨b, 1, none⟩ = false ∧ W.frozen? ⟨b, 2, none⟩ = false ∧ W.frozen? ⟨b, 3, none⟩ = false ∧ W.frozen? ⟨b, 4, none⟩ = false ∧ W.frozen? ⟨b, 5, none⟩ = false :=
  ⟨⟨(Blk.cell h 0).trans rfl, (Blk.cell h 1).trans rfl, (Blk.cell h 2).trans rfl, (Blk.cell h 3).trans rfl, (Blk.cell h 4).trans rfl, (Blk.cell h 5).trans rfl⟩, Blk.frozen h 0, Blk.frozen h 1, Blk.frozen h 2, Blk.frozen h 3, Blk.frozen h 4, Blk.frozen h 5⟩
def segV (ru : Int) (g : Int) : Value := .agg #[.int .i64 0, .slice none 0 0, .int .i64 ru, .bool false, .int .i64 g, .slice none 0 0]
theorem headW_len : headW.length = 10 := by
  unfold headW headB
  rw [checkedB_len]
  rfl
set_option maxRecDepth 100000 in
set_option maxHeartbeats 1000000 in
/-- wal.Read, of a head alone. -/
theorem WRead_head (w : World) : Calls Tryz.prog 35 #[.string (bs headW)] w fun e w' => e = .returned (.tuple #[segV 10 3, .int .i64 0]) ∧ Below w.heap.size w w' := by
  have b0 := one_alloc w (.cells #[.int .i64 0, .slice none 0 0, .int .i64 0, .bool false, .int .i64 0, .slice none 0 0] 61)
  have k0 := Blk.new w 61 #[.int .i64 0, .slice none 0 0, .int .i64 0, .bool false, .int .i64 0, .slice none 0 0]
  have q := Lib.hid (fun W => Open_any headW awalB (by rw [headW_len]; decide) (by decide) W)
  rw [open_wal, show openV (3, 0, [], 0) = .tuple #[.int .i64 3, .int .i64 0, .string (bs []), .int .i64 0] from rfl] at q
  have q2 := Lib.hid (fun W => of_nil W)
  have hm : (⟨#[65, 87, 65, 76]⟩ : ByteArray) = bs awalB := rfl
  have hl := headW_len
  generalize headW = s at *
  go_enter Tryz.func35, Tryz.ntmps35
  go_wp2_with fail
  refine (q.out _).mono ?_
  rintro e w1 ⟨rfl, hb1⟩
  have k1 := Blk.below k0 hb1 k0.lt
  have B1 := b0.trans (hb1.mono b0.size)
  clear q b0 hb1 k0
  go_wp2_with fail
  refine (q2.out _).mono ?_
  rintro e w2 ⟨nb, m, rfl, hnb, kn, hb2⟩
  have k2 := Blk.below k1 hb2 k1.lt
  have B2 := B1.trans (hb2.mono B1.size)
  have q3 := Lib.hid (fun W => coder3 nb W)
  have hk1 := k1.lt
  clear q2 B1 hb2 k1
  go_wp2_with fail
  refine (q3.out _).mono ?_
  rintro e w3 ⟨⟨T, v, rfl⟩, hb3⟩
  have k3 := Blk.below k2 hb3 k2.lt
  have kn3 := Blk.below kn hb3 kn.lt
  have B3 := B2.trans (hb3.mono B2.size)
  have b4 := one_alloc w3 (.cells #[.int .i64 0, .slice none 0 0, .int .i64 0, .bool false, .int .i64 0, .slice none 0 0] 61)
  have k4 := Blk.below k3 b4 k3.lt
  have kn4 := Blk.below kn3 b4 kn3.lt
  have x4 := Blk.new w3 61 #[.int .i64 0, .slice none 0 0, .int .i64 0, .bool false, .int .i64 0, .slice none 0 0]
  have B4 := B3.trans (b4.mono B3.size)
  have hne : w.heap.size ≠ w3.heap.size := by have := k3.lt; omega
  have hnn : nb ≠ w3.heap.size := by have := kn3.lt; omega
  have hxw : w.heap.size ≤ w3.heap.size := B3.size
  clear q3 B2 hb3 k2 kn k3 kn3 b4 B3
  go_upto_region 4 with fail
  generalize hW4 : w3.alloc _ = W4 at *
  clear hW4
  generalize w3.heap.size = x at *
  obtain ⟨⟨x0, x1, x2, x3, x5, x6⟩, y0, y1, y2, y3, y4, y5⟩ := cells6 x4
  obtain ⟨n0, _, _, _⟩ := cells2 kn4
  go_wp2_with fail
  go_loopw [6] (fun r wr => r = .string (bs []) ∧ wr = W4) (fun _ _ => 0)
  case atStart => exact ⟨rfl, rfl⟩
  obtain ⟨rfl, rfl⟩ := hrel
  obtain ⟨⟨r0, r1, r2, r3, r4, r5⟩, s0, s1, s2, s3, s4, s5⟩ := cells6 k4
  have hnx : x ≠ nb := fun e => hnn e.symm
  have hxr : x ≠ w.heap.size := fun e => hne e.symm
  have K := Blk.set_ (Blk.set_ (Blk.set_ (Blk.set_ (Blk.set_ (Blk.set_ (Blk.far (Blk.far (Blk.far k4 (p := ⟨x, 2, none⟩) hne (.int .i64 10)) (p := ⟨x, 4, none⟩) hne (.int .i64 3)) (p := ⟨x, 5, none⟩) hne (.slice none 0 0)) 0 (.int .i64 0)) 1 (.slice none 0 0)) 2 (.int .i64 10)) 3 (.bool false)) 4 (.int .i64 3)) 5 (.slice none 0 0)
  go_wp2_with fail
  refine bodyPost_ret (results_ct rfl _ _ w.heap.size 61 _ _ rfl K Tryz.underlying61 rfl (by kernel_rfl)) rfl ?_
  have hr : w.heap.size ≤ w.heap.size := Nat.le_refl _
  exact ⟨rfl, ((((((((B4.setCell (p := ⟨x, 2, none⟩) hxw _).setCell (p := ⟨x, 4, none⟩) hxw _).setCell (p := ⟨x, 5, none⟩) hxw _).setCell (p := ⟨w.heap.size, 0, none⟩) hr _).setCell (p := ⟨w.heap.size, 1, none⟩) hr _).setCell (p := ⟨w.heap.size, 2, none⟩) hr _).setCell (p := ⟨w.heap.size, 3, none⟩) hr _).setCell (p := ⟨w.heap.size, 4, none⟩) hr _).setCell (p := ⟨w.heap.size, 5, none⟩) hr _⟩
end Go.Proofs.YtgagcncmlonciaaGreatDoor
namespace Go.Proofs.YtgagcncmlonciaaGreatDoor
open Go.RowKit
attribute [local go_sem] bs_toList bs_size

theorem metB_len : (metB 3).length ≤ 100 := by decide +kernel
theorem open_met : openB (metB 3) magicM = (3, 0, framePut (bodyB (metT 3)), 0) := by
  have e : metB 3 = headB magicM 3 0 ++ framePut (bodyB (metT 3)) := by
    unfold metB putM
    rw [metT_valid 3 (by decide) (by decide)]
    rfl
  rw [e]
  exact openB_headM 3 (by decide) (by decide) _
theorem walN_len : walN.length = 10 := rfl
theorem magic_meta (w : World) : Calls Tryz.prog 62 #[.string (bs metaK)] w fun e w' => e = .returned (.string (bs magicM)) ∧ w = w' := by
  have h : (bs metaK == (⟨#[109, 101, 116, 97]⟩ : ByteArray)) = true := by decide
  go_enter Tryz.func62, Tryz.ntmps62
  go_wp2_with fail
  go_ret
  exact ⟨rfl, rfl⟩
theorem magic_wal (w : World) (hG : Gl w) : Calls Tryz.prog 62 #[.string (bs walN)] w fun e w' => e = .returned (.string (bs awalB)) ∧ Below w.heap.size w w' := by
  have q := Lib.hid (Parse_any walN w hG (by decide))
  rw [parse_wal, show parseV (walK, 0, true) = .tuple #[.string (bs walK), .int .i64 0, .bool true] from rfl] at q
  go_enter Tryz.func62, Tryz.ntmps62
  go_wp2_with fail
  refine q.out.mono ?_
  rintro e w1 ⟨rfl, hb⟩
  go_wp2_with fail
  go_ret
  exact ⟨rfl, hb⟩
variable {w : World} {G : Nat} {S : FsS} {F : Nat → Prop}
/-- engine.Gate, where there is no file. -/
theorem Gate_none (h : FsMem w G S F) (hok : S.ok) (hd : S.dead = false) (hk : S.names.keys = []) :
    Calls Tryz.prog 30 #[.pointer (some ⟨G, 0, none⟩)] w fun e w' => e = .returned (.int .i64 0) ∧ Below w.heap.size w w' := by
  have q1 := Lib.hid (Fs_Dead_mem h)
  have q2 := Lib.hid (Fs_List_mem h hok)
  rw [hd] at q1
  rw [hk] at q2
  go_enter Tryz.func30, Tryz.ntmps30
  go_wp2_with fail
  refine q1.out.mono ?_
  rintro e w1 ⟨rfl, rfl⟩
  go_wp2_with fail
  refine q2.out.mono ?_
  rintro e w2 ⟨⟨v, rfl, hv⟩, hb⟩
  obtain rfl := hv.2.2 rfl
  clear q1 q2 hv
  go_wp2_with fail
  go_loopw [3, 18] (fun b i wr => b = .bool false ∧ i = .int .i64 0 ∧ wr = w2) (fun _ _ _ => 0)
  case atStart => exact ⟨rfl, rfl, rfl⟩
  obtain ⟨rfl, rfl, rfl⟩ := hrel
  go_wp2_with fail
  go_ret
  exact ⟨rfl, hb⟩
set_option maxRecDepth 100000 in
/-- engine.Gate, where the files are those of works. -/
theorem Gate_full (h : FsMem w G S F) (hS : FullS S) (hG : Gl w) :
    Calls Tryz.prog 30 #[.pointer (some ⟨G, 0, none⟩)] w fun e w' => e = .returned (.int .i64 0) ∧ Below w.heap.size w w' := by
  have q1 := Lib.hid (Fs_Dead_mem h)
  have q2 := Lib.hid (Fs_List_mem h hS.ok)
  rw [hS.dead] at q1
  rw [hS.keys] at q2
  have q3 := Lib.hid (fun W (hW : Below w.heap.size w W) => Fs_Read_mem (h.below hW) metaK (by decide))
  have q4 := Lib.hid (fun W (hW : Below w.heap.size w W) => Fs_Read_mem (h.below hW) walN (by decide))
  have q5 := Lib.hid (fun W (hW : Below w.heap.size w W) => magic_wal W (hG.below hW))
  have q6 := Lib.hid (fun W => Open_any (metB 3) magicM (Nat.le_trans metB_len (by decide)) (by decide) W)
  have q7 := Lib.hid (fun W => Open_any headW awalB (by rw [headW_len]; decide) (by decide) W)
  rw [hS.met] at q3
  rw [hS.wal] at q4
  rw [open_met, show openV (3, 0, framePut (bodyB (metT 3)), 0) = .tuple #[.int .i64 3, .int .i64 0, .string (bs (framePut (bodyB (metT 3)))), .int .i64 0] from rfl] at q6
  rw [open_wal, show openV (3, 0, [], 0) = .tuple #[.int .i64 3, .int .i64 0, .string (bs []), .int .i64 0] from rfl] at q7
  have m1 : (metaK == [106, 111, 117, 114, 110, 97, 108]) = false := by decide
  have m2 : (walN == [106, 111, 117, 114, 110, 97, 108]) = false := by decide
  have m3 : magicM.isEmpty = false := rfl
  have m4 : awalB.isEmpty = false := rfl
  have q8 := Lib.hid (fun W => magic_meta W)
  clear h hS hG
  go_enter Tryz.func30, Tryz.ntmps30
  go_wp2_with fail
  refine q1.out.mono ?_
  rintro e w1 ⟨rfl, rfl⟩
  go_wp2_with fail
  refine q2.out.mono ?_
  rintro e w2 ⟨⟨v, rfl, hv⟩, hb⟩
  obtain ⟨la, lc, rfl, _, _, hc⟩ := hv.form
  obtain ⟨g, rfl, d0⟩ := hc 0 metaK rfl
  obtain ⟨_, e1, d1⟩ := hc 1 walN rfl
  obtain rfl : g = _ := congrArg Addr.block (Option.some.inj e1)
  clear q1 q2 hv hc e1
  generalize metaK = s0 at *
  generalize walN = s1 at *
  generalize metB 3 = b0 at *
  generalize headW = b1 at *
  generalize magicM = g0 at *
  generalize awalB = g1 at *
  generalize framePut (bodyB (metT 3)) = r0 at *
  go_wp2_with fail
  go_loopw [3, 18] (fun b i wr => ∃ j : Nat, j ≤ 2 ∧ b = .bool false ∧ i = .int .i64 (j : Int) ∧ Below w2.heap.size w2 wr) (fun _ i _ => 2 - (intOf i).toNat)
  case atStart => exact ⟨0, by decide, rfl, rfl, Below.refl _ _⟩
  obtain ⟨j, hj, rfl, rfl, hw⟩ := hrel
  have B := hb.trans (hw.mono hb.size)
  have e0 := (hw.cell (World.block_lt_of_cell? _ _ d0)).trans d0
  have e1 := (hw.cell (World.block_lt_of_cell? _ _ d1)).trans d1
  rcases (show j = 0 ∨ j = 1 ∨ j = 2 by omega) with rfl | rfl | rfl
  · go_wp2_with fail
    refine (q8.out _).mono ?_
    rintro e _ ⟨rfl, rfl⟩
    go_wp2_with fail
    refine (q3.out _ B).mono ?_
    rintro e _ ⟨rfl, rfl⟩
    go_wp2_with fail
    refine (q6.out _).mono ?_
    rintro e w4 ⟨rfl, hb4⟩
    go_wp2_with fail
    go_roundw
    case rel => exact ⟨1, by decide, rfl, rfl, hw.trans (hb4.mono hw.size)⟩
    case measure => simp [intOf]
  · go_wp2_with fail
    refine (q5.out _ B).mono ?_
    rintro e w3 ⟨rfl, hb3⟩
    have B3 := B.trans (hb3.mono B.size)
    go_wp2_with fail
    refine (q4.out _ B3).mono ?_
    rintro e _ ⟨rfl, rfl⟩
    go_wp2_with fail
    refine (q7.out _).mono ?_
    rintro e w4 ⟨rfl, hb4⟩
    go_wp2_with fail
    go_roundw
    case rel => exact ⟨2, by decide, rfl, rfl, (hw.trans (hb3.mono hw.size)).trans (hb4.mono (Nat.le_trans hw.size hb3.size))⟩
    case measure => simp [intOf]
  · go_wp2_with fail
    go_ret
    exact ⟨rfl, B⟩
end Go.Proofs.YtgagcncmlonciaaGreatDoor
namespace Go.Proofs.YtgagcncmlonciaaGreatDoor
open Go.RowKit
attribute [local go_sem] bs_toList bs_size

/-- A row of values laid into a block's cells, from one on. -/
def putL (w : World) (b : Nat) : Nat → List Value → World
  | _, [] => w
  | i, v :: l => putL (w.setCell ⟨b, i, none⟩ v) b (i + 1) l
theorem putL_blk {b : Nat} {T : TypeId} : ∀ (l : List Value) (i : Nat) (w : World) (cs : Array Value), Blk w b T cs → i + l.length = cs.size → Blk (putL w b i l) b T (cs.toList.take i ++ l).toArray
  | [], i, w, cs, h, e => by
    have e2 : cs.toList.take i = cs.toList := List.take_of_length_le (by simp at e; simp; omega)
    rw [List.append_nil, e2]
    exact h
  | v :: l, i, w, cs, h, e => by
    have hi : i < cs.size := by simp at e; omega
    have h2 := putL_blk l (i + 1) (w.setCell ⟨b, i, none⟩ v) (cs.setIfInBounds i v) (Blk.set_ h i v) (by simp at e ⊢; omega)
    have e2 : (cs.setIfInBounds i v).toList.take (i + 1) = cs.toList.take i ++ [v] := by
      rw [Array.toList_setIfInBounds, List.take_set, List.take_succ_eq_append_getElem (by simpa using hi), List.set_append_right _ _ (by simp; omega)]
      simp [List.length_take, Nat.min_eq_left (Nat.le_of_lt hi)]
    rw [e2, List.append_assoc] at h2
    exact h2
theorem putL_all {b : Nat} {T : TypeId} {w : World} {cs : Array Value} (l : List Value) (h : Blk w b T cs) (e : l.length = cs.size) : Blk (putL w b 0 l) b T l.toArray := by
  have := putL_blk l 0 w cs h (by omega)
  simpa using this
theorem putL_below {n b : Nat} {w0 : World} (hb : n ≤ b) : ∀ (l : List Value) (i : Nat) (w : World), Below n w0 w → Below n w0 (putL w b i l)
  | [], _, _, h => h
  | v :: l, i, w, h => putL_below hb l (i + 1) _ (h.setCell (p := ⟨b, i, none⟩) hb v)
theorem putL_far {b g : Nat} {T : TypeId} {cs : Array Value} (hne : g ≠ b) : ∀ (l : List Value) (i : Nat) (w : World), Blk w g T cs → Blk (putL w b i l) g T cs
  | [], _, _, h => h
  | v :: l, i, w, h => putL_far hne l (i + 1) _ (Blk.far h (p := ⟨b, i, none⟩) hne v)
theorem cells14 {W : World} {b : Nat} {T : TypeId} {u0 u1 u2 u3 u4 u5 u6 u7 u8 u9 u10 u11 u12 u13 : Value} (h : Blk W b T #[u0, u1, u2, u3, u4, u5, u6, u7, u8, u9, u10, u11, u12, u13]) :
    (W.cell? ⟨b, 0, none⟩ = some u0 ∧ W.cell? ⟨b, 1, none⟩ = some u1 ∧ W.cell? ⟨b, 2, none⟩ = some u2 ∧ W.cell? ⟨b, 3, none⟩ = some u3 ∧ W.cell? ⟨b, 4, none⟩ = some u4 ∧ W.cell? ⟨b, 5, none⟩ = some u5 ∧ W.cell? ⟨b, 6, none⟩ = some u6 ∧ W.cell? ⟨b, 7, none⟩ = some u7 ∧ W.cell? ⟨b, 8, none⟩ = some u8 ∧ W.cell? ⟨b, 9, none⟩ = some u9 ∧ W.cell? ⟨b, 10, none⟩ = some u10 ∧ W.cell? ⟨b, 11, none⟩ = some u11 ∧ W.cell? ⟨b, 12, none⟩ = some u12 ∧ W.cell? ⟨b, 13, none⟩ = some u13) ∧
    W.frozen? ⟨b, 0, none⟩ = false ∧ W.frozen? ⟨b, 1, none⟩ = false ∧ W.frozen? ⟨b, 2, none⟩ = false ∧ W.frozen? ⟨b, 3, none⟩ = false ∧ W.frozen? ⟨b, 4, none⟩ = false ∧ W.frozen? ⟨b, 5, none⟩ = false ∧ W.frozen? ⟨b, 6, none⟩ = false ∧ W.frozen? ⟨b, 7, none⟩ = false ∧ W.frozen? ⟨b, 8, none⟩ = false ∧ W.frozen? ⟨b, 9, none⟩ = false ∧ W.frozen? ⟨b, 10, none⟩ = false ∧ W.frozen? ⟨b, 11, none⟩ = false ∧ W.frozen? ⟨b, 12, none⟩ = false ∧ W.frozen? ⟨b, 13, none⟩ = false :=
  ⟨⟨(Blk.cell h 0).trans rfl, (Blk.cell h 1).trans rfl, (Blk.cell h 2).trans rfl, (Blk.cell h 3).trans rfl, (Blk.cell h 4).trans rfl, (Blk.cell h 5).trans rfl, (Blk.cell h 6).trans rfl, (Blk.cell h 7).trans rfl, (Blk.cell h 8).trans rfl, (Blk.cell h 9).trans rfl, (Blk.cell h 10).trans rfl, (Blk.cell h 11).trans rfl, (Blk.cell h 12).trans rfl, (Blk.cell h 13).trans rfl⟩, Blk.frozen h 0, Blk.frozen h 1, Blk.frozen h 2, Blk.frozen h 3, Blk.frozen h 4, Blk.frozen h 5, Blk.frozen h 6, Blk.frozen h 7, Blk.frozen h 8, Blk.frozen h 9, Blk.frozen h 10, Blk.frozen h 11, Blk.frozen h 12, Blk.frozen h 13⟩
/-- A content's cells. -/
def contC (g nx wl : Int) (bl : Value) (bs1 : Value) (bf : Int) (ns : Value) (nf : Int) (ru sg : Int) : Array Value :=
  #[.int .i64 g, .int .i64 nx, .int .i64 wl, bl, bs1, .int .i64 bf, ns, .int .i64 nf, .int .i64 0, .slice none 0 0, .int .i64 ru, .bool false, .int .i64 sg, .slice none 0 0]
def zeroC : Array Value := contC 0 0 0 (.slice none 0 0) (.slice none 0 0) 0 (.slice none 0 0) 0 0 0
variable {w : World} {G : Nat} {S : FsS} {F : Nat → Prop}
set_option maxRecDepth 100000 in
/-- engine.read, where there is no file. -/
theorem read_none (h : FsMem w G S F) (hok : S.ok) (hd : S.dead = false) (hk : S.names.keys = []) (hr : S.read metaK = ([], 11)) :
    Calls Tryz.prog 14 #[.pointer (some ⟨G, 0, none⟩)] w fun e w' => e = .returned (.tuple #[.agg zeroC, .int .i64 11]) ∧ Below w.heap.size w w' := by
  have b1 := one_alloc w (.cells zeroC 63)
  have b2 := b1.alloc b1.size (.cells zeroC 63)
  have k1 := Blk.alloc (Blk.new w 63 zeroC) (.cells zeroC 63)
  have k2 := Blk.new (w.alloc (.cells zeroC 63)) 63 zeroC
  rw [World.size_alloc] at k2
  have q1 := Lib.hid (fun W (hW : Below w.heap.size w W) => Gate_none (h.below hW) hok hd hk)
  have q2 := Lib.hid (fun W (hW : Below w.heap.size w W) => Fs_Read_mem (h.below hW) metaK (by decide))
  rw [hr] at q2
  clear h hok hk hr
  unfold zeroC contC at *
  go_enter Tryz.func14, Tryz.ntmps14
  go_wp2_with fail
  apply wp_scope_straight
  go_wp2_with fail
  refine (q1.out _ b2).mono ?_
  rintro e w1 ⟨rfl, hb1⟩
  have B1 := b2.trans (hb1.mono b2.size)
  go_wp2_with fail
  refine (q2.out _ B1).mono ?_
  rintro e _ ⟨rfl, rfl⟩
  have j1 := Blk.below k1 hb1 k1.lt
  have j2 := Blk.below k2 hb1 k2.lt
  clear q1 q2 k1 k2 hb1 b1 b2
  obtain ⟨⟨c0, c1, c2, c3, c4, c5, c6, c7, c8, c9, c10, c11, c12, c13⟩, f0, f1, f2, f3, f4, f5, f6, f7, f8, f9, f10, f11, f12, f13⟩ := cells14 j1
  obtain ⟨⟨d0, d1, d2, d3, d4, d5, d6, d7, d8, d9, d10, d11, d12, d13⟩, _⟩ := cells14 j2
  have K := putL_all [.int .i64 0, .int .i64 0, .int .i64 0, .slice none 0 0, .slice none 0 0, .int .i64 0, .slice none 0 0, .int .i64 0, .int .i64 0, .slice none 0 0, .int .i64 0, .bool false, .int .i64 0, .slice none 0 0] j1 rfl
  go_wp2_with fail
  (try dsimp only [Exit.noGoto])
  refine bodyPost_ret (results_ct rfl _ _ w.heap.size 63 _ _ rfl K Tryz.underlying63 rfl (by kernel_rfl)) rfl ?_
  exact ⟨rfl, putL_below (Nat.le_refl _) [_, _, _, _, _, _, _, _, _, _, _, _, _, _] 0 _ B1⟩
end Go.Proofs.YtgagcncmlonciaaGreatDoor
namespace Go.Proofs.YtgagcncmlonciaaGreatDoor
open Go.RowKit
attribute [local go_sem] bs_toList bs_size

variable {w : World} {G : Nat} {S : FsS} {F : Nat → Prop}
/-- What read answers, where the files are those of works. -/
def ReadFull (w : World) (e : Ending) (w' : World) : Prop := ∃ a c, e = .returned (.tuple #[.agg (contC 3 1 0 (.slice a 0 c) (.slice none 0 0) 0 (.slice none 0 0) 0 10 3), .int .i64 0]) ∧ Below w.heap.size w w'
set_option maxRecDepth 100000 in
set_option maxHeartbeats 2000000 in
theorem read_full (h : FsMem w G S F) (hS : FullS S) (hG : Gl w) :
    Calls Tryz.prog 14 #[.pointer (some ⟨G, 0, none⟩)] w (ReadFull w) := by
  have b1 := one_alloc w (.cells zeroC 63)
  have b2 := b1.alloc b1.size (.cells zeroC 63)
  have k1 := Blk.alloc (Blk.new w 63 zeroC) (.cells zeroC 63)
  have k2 := Blk.new (w.alloc (.cells zeroC 63)) 63 zeroC
  rw [World.size_alloc] at k2
  have q1 := Lib.hid (fun W (hW : Below w.heap.size w W) => Gate_full (h.below hW) hS (hG.below hW))
  have q2 := Lib.hid (fun W (hW : Below w.heap.size w W) => Fs_Read_mem (h.below hW) metaK (by decide))
  have q3 := Lib.hid (fun W => Get_meta_any (metB 3) W (Nat.le_trans metB_len (by decide)))
  have q4 := Lib.hid (fun W (hW : Below w.heap.size w W) => Name_any walK 0 W (hG.below hW) (by decide) (by decide) (by decide))
  have q5 := Lib.hid (fun W (hW : Below w.heap.size w W) => Fs_Read_mem (h.below hW) walN (by decide))
  have q6 := Lib.hid (fun W => WRead_head W)
  rw [hS.met] at q2
  rw [hS.wal] at q5
  rw [getM_met 3 (by decide) (by decide)] at q3
  rw [show nameB walK 0 = walN from rfl] at q4
  simp only [Option.getD_some] at q3
  rw [show segV 10 3 = .agg #[.int .i64 0, .slice none 0 0, .int .i64 10, .bool false, .int .i64 3, .slice none 0 0] from rfl] at q6
  clear h hS hG
  unfold zeroC contC at k1 k2
  go_enter Tryz.func14, Tryz.ntmps14
  go_wp2_with fail
  apply wp_scope_straight
  go_wp2_with fail
  refine (q1.out _ b2).mono ?_
  rintro e w1 ⟨rfl, hb1⟩
  have B1 := b2.trans (hb1.mono b2.size)
  go_wp2_with fail
  refine (q2.out _ B1).mono ?_
  rintro e _ ⟨rfl, rfl⟩
  have j1 := Blk.below k1 hb1 k1.lt
  have j2 := Blk.below k2 hb1 k2.lt
  clear q1 q2 k1 k2 hb1 b1 b2
  go_wp2_with fail
  refine (q3.out _).mono ?_
  rintro e w3 ⟨bv, rfl, hI, hb3⟩
  obtain ⟨ba, bc, rfl, -⟩ := id hI
  rw [show getMV (metT 3) (.slice ba (metT 3).blocks.length bc) 0 = .tuple #[.agg #[.int .i64 3, .int .i64 1, .int .i64 0, .slice ba 0 bc], .int .i64 0] from rfl]
  have B3 := B1.trans (hb3.mono B1.size)
  have j1 := Blk.below j1 hb3 j1.lt
  have j2 := Blk.below j2 hb3 j2.lt
  clear q3 hI hb3 B1
  obtain ⟨_, g0, g1, g2, g3, g4, g5, g6, g7, g8, g9, g10, g11, g12, g13⟩ := cells14 j2
  go_upto_region 9 with fail
  have hne : w.heap.size ≠ w.heap.size + 1 := by omega
  have hle : w.heap.size ≤ w.heap.size + 1 := by omega
  have K2 : Blk ((((w3.setCell ⟨w.heap.size + 1, 0, none⟩ (.int .i64 3)).setCell ⟨w.heap.size + 1, 1, none⟩ (.int .i64 1)).setCell ⟨w.heap.size + 1, 2, none⟩ (.int .i64 0)).setCell ⟨w.heap.size + 1, 3, none⟩ (.slice ba 0 bc)) (w.heap.size + 1) 63 (contC 3 1 0 (.slice ba 0 bc) (.slice none 0 0) 0 (.slice none 0 0) 0 0 0) :=
    Blk.set_ (Blk.set_ (Blk.set_ (Blk.set_ j2 0 _) 1 _) 2 _) 3 _
  have J1 : Blk ((((w3.setCell ⟨w.heap.size + 1, 0, none⟩ (.int .i64 3)).setCell ⟨w.heap.size + 1, 1, none⟩ (.int .i64 1)).setCell ⟨w.heap.size + 1, 2, none⟩ (.int .i64 0)).setCell ⟨w.heap.size + 1, 3, none⟩ (.slice ba 0 bc)) w.heap.size 63 zeroC := putL_far hne [.int .i64 3, .int .i64 1, .int .i64 0, .slice ba 0 bc] 0 w3 j1
  have B4 : Below w.heap.size w ((((w3.setCell ⟨w.heap.size + 1, 0, none⟩ (.int .i64 3)).setCell ⟨w.heap.size + 1, 1, none⟩ (.int .i64 1)).setCell ⟨w.heap.size + 1, 2, none⟩ (.int .i64 0)).setCell ⟨w.heap.size + 1, 3, none⟩ (.slice ba 0 bc)) := putL_below hle [.int .i64 3, .int .i64 1, .int .i64 0, .slice ba 0 bc] 0 w3 B3
  clear g0 g1 g2 g3 g4 g5 g6 g7 g8 g9 g10 g11 g12 g13 j1 j2 B3
  generalize (((w3.setCell ⟨w.heap.size + 1, 0, none⟩ (.int .i64 3)).setCell ⟨w.heap.size + 1, 1, none⟩ (.int .i64 1)).setCell ⟨w.heap.size + 1, 2, none⟩ (.int .i64 0)).setCell ⟨w.heap.size + 1, 3, none⟩ (.slice ba 0 bc) = W4 at *
  unfold contC at K2
  obtain ⟨⟨d0, d1, d2, d3, d4, d5, d6, d7, d8, d9, d10, d11, d12, d13⟩, _⟩ := cells14 K2
  apply wp_label
  go_wp2_with fail
  go_loopw [7, 37] (fun e i wr => e = .int .i64 0 ∧ i = .int .i64 0 ∧ wr = W4) (fun _ _ _ => 0)
  case atStart => exact ⟨rfl, rfl, rfl⟩
  obtain ⟨rfl, rfl, rfl⟩ := hrel
  go_wp2_with fail
  refine (q4.out _ B4).mono ?_
  rintro e w5 ⟨rfl, hb5⟩
  have B5 := B4.trans (hb5.mono B4.size)
  go_wp2_with fail
  refine (q5.out _ B5).mono ?_
  rintro e _ ⟨rfl, rfl⟩
  go_wp2_with fail
  refine (q6.out _).mono ?_
  rintro e w6 ⟨rfl, hb6⟩
  have B6 := B5.trans (hb6.mono B5.size)
  have K6 := Blk.below (Blk.below K2 hb5 K2.lt) hb6 (Blk.below K2 hb5 K2.lt).lt
  have J6 := Blk.below (Blk.below J1 hb5 J1.lt) hb6 (Blk.below J1 hb5 J1.lt).lt
  clear q4 q5 q6 B5 B4 hb5 hb6 K2 J1 d0 d1 d2 d3 d4 d5 d6 d7 d8 d9 d10 d11 d12 d13
  obtain ⟨⟨d0, d1, d2, d3, d4, d5, d6, d7, d8, d9, d10, d11, d12, d13⟩, g0, g1, g2, g3, g4, g5, g6, g7, g8, g9, g10, g11, g12, g13⟩ := cells14 K6
  go_upto_region 25 with fail
  have K7 : Blk ((((((w6.setCell ⟨w.heap.size + 1, 8, none⟩ (.int .i64 0)).setCell ⟨w.heap.size + 1, 9, none⟩ (.slice none 0 0)).setCell ⟨w.heap.size + 1, 10, none⟩ (.int .i64 10)).setCell ⟨w.heap.size + 1, 11, none⟩ (.bool false)).setCell ⟨w.heap.size + 1, 12, none⟩ (.int .i64 3)).setCell ⟨w.heap.size + 1, 13, none⟩ (.slice none 0 0)) (w.heap.size + 1) 63 (contC 3 1 0 (.slice ba 0 bc) (.slice none 0 0) 0 (.slice none 0 0) 0 10 3) :=
    Blk.set_ (Blk.set_ (Blk.set_ (Blk.set_ (Blk.set_ (Blk.set_ K6 8 _) 9 _) 10 _) 11 _) 12 _) 13 _
  have J7 : Blk ((((((w6.setCell ⟨w.heap.size + 1, 8, none⟩ (.int .i64 0)).setCell ⟨w.heap.size + 1, 9, none⟩ (.slice none 0 0)).setCell ⟨w.heap.size + 1, 10, none⟩ (.int .i64 10)).setCell ⟨w.heap.size + 1, 11, none⟩ (.bool false)).setCell ⟨w.heap.size + 1, 12, none⟩ (.int .i64 3)).setCell ⟨w.heap.size + 1, 13, none⟩ (.slice none 0 0)) w.heap.size 63 zeroC := putL_far hne [.int .i64 0, .slice none 0 0, .int .i64 10, .bool false, .int .i64 3, .slice none 0 0] 8 w6 J6
  have B7 : Below w.heap.size w ((((((w6.setCell ⟨w.heap.size + 1, 8, none⟩ (.int .i64 0)).setCell ⟨w.heap.size + 1, 9, none⟩ (.slice none 0 0)).setCell ⟨w.heap.size + 1, 10, none⟩ (.int .i64 10)).setCell ⟨w.heap.size + 1, 11, none⟩ (.bool false)).setCell ⟨w.heap.size + 1, 12, none⟩ (.int .i64 3)).setCell ⟨w.heap.size + 1, 13, none⟩ (.slice none 0 0)) := putL_below hle [.int .i64 0, .slice none 0 0, .int .i64 10, .bool false, .int .i64 3, .slice none 0 0] 8 w6 B6
  clear g0 g1 g2 g3 g4 g5 g6 g7 g8 g9 g10 g11 g12 g13 K6 J6 B6 d0 d1 d2 d3 d4 d5 d6 d7 d8 d9 d10 d11 d12 d13
  generalize (((((w6.setCell ⟨w.heap.size + 1, 8, none⟩ (.int .i64 0)).setCell ⟨w.heap.size + 1, 9, none⟩ (.slice none 0 0)).setCell ⟨w.heap.size + 1, 10, none⟩ (.int .i64 10)).setCell ⟨w.heap.size + 1, 11, none⟩ (.bool false)).setCell ⟨w.heap.size + 1, 12, none⟩ (.int .i64 3)).setCell ⟨w.heap.size + 1, 13, none⟩ (.slice none 0 0) = W7 at *
  unfold contC at K7
  have q7 := Lib.hid (fun W => All_nil none 0 0 0 W)
  obtain ⟨⟨d0, d1, d2, d3, d4, d5, d6, d7, d8, d9, d10, d11, d12, d13⟩, _⟩ := cells14 K7
  go_wp2_with fail
  refine (q7.out _).mono ?_
  rintro e w8 ⟨rfl, hb8⟩
  have B8 := B7.trans (hb8.mono B7.size)
  have K8 := Blk.below K7 hb8 K7.lt
  have J8 := Blk.below J7 hb8 J7.lt
  clear q7 B7 hb8 K7 J7 d0 d1 d2 d3 d4 d5 d6 d7 d8 d9 d10 d11 d12 d13
  obtain ⟨⟨d0, d1, d2, d3, d4, d5, d6, d7, d8, d9, d10, d11, d12, d13⟩, g0, g1, g2, g3, g4, g5, g6, g7, g8, g9, g10, g11, g12, g13⟩ := cells14 K8
  unfold zeroC contC at J8
  obtain ⟨_, f0, f1, f2, f3, f4, f5, f6, f7, f8, f9, f10, f11, f12, f13⟩ := cells14 J8
  obtain ⟨⟨c0, c1, c2, c3, c4, c5, c6, c7, c8, c9, c10, c11, c12, c13⟩, _⟩ := cells14 J8
  have J9 := putL_far hne [.slice none 0 0, .int .i64 0] 6 w8 J8
  have B9 := putL_below hle [.slice none 0 0, .int .i64 0] 6 w8 B8
  have K := putL_all [.int .i64 3, .int .i64 1, .int .i64 0, .slice ba 0 bc, .slice none 0 0, .int .i64 0, .slice none 0 0, .int .i64 0, .int .i64 0, .slice none 0 0, .int .i64 10, .bool false, .int .i64 3, .slice none 0 0] J9 rfl
  clear K8 J8 J9 B8
  go_wp2_with fail
  (try dsimp only [Exit.noGoto])
  refine bodyPost_ret (results_ct rfl _ _ w.heap.size 63 _ _ rfl K Tryz.underlying63 rfl (by kernel_rfl)) rfl ?_
  exact ⟨ba, bc, rfl, putL_below (Nat.le_refl _) [_, _, _, _, _, _, _, _, _, _, _, _, _, _] 0 _ B9⟩
end Go.Proofs.YtgagcncmlonciaaGreatDoor
namespace Go.Proofs.YtgagcncmlonciaaGreatDoor
open Go.RowKit
attribute [local go_sem] bs_toList bs_size

set_option maxRecDepth 100000 in
theorem efirst_any {w : World} (n b : Nat) (fs : Nat → FuncId) (caps : Nat → Array Value) (I : Nat → World → Prop) (Err : Int → World → Prop) (hn : n ≤ 1000) (hcell : ∀ j, j < n → ∀ w, I j w → w.cell? ⟨b, j, none⟩ = some (.func (.func (fs j)) #[] (caps j)))
    (hcf : ∀ j, j < n → ∀ W, (callFunc (fs j) (caps j)).run Tryz.prog W = .ok (.enter (fs j) (caps j)) W) (hstep : ∀ j, j < n → ∀ w, I j w → Calls Tryz.prog (fs j) (caps j) w (FirstPost (I (j + 1)) Err)) (h0 : I 0 w) :
    Calls Tryz.prog 39 #[.slice (some ⟨b, 0, none⟩) n n] w (FirstPost (I n) Err) := by
  have HC := Lib.hid hcell
  have HF := Lib.hid hcf
  have HS := Lib.hid hstep
  have H0 := Lib.hid h0
  clear hcell hcf hstep h0
  go_enter Tryz.func39, Tryz.ntmps39
  go_wp2_with fail
  go_loopw [8] (fun i wr => ∃ j : Nat, j ≤ n ∧ i = .int .i64 (j : Int) ∧ I j wr) (fun i _ => n - (intOf i).toNat)
  case atStart => exact ⟨0, Nat.zero_le _, rfl, H0.out⟩
  obtain ⟨j, hj, rfl, hI⟩ := hrel
  rcases (show j < n ∨ j = n by omega) with hjn | rfl
  · have c := HC.out j hjn wr hI
    have hf := HF.out j hjn
    have q := Lib.hid (HS.out j hjn wr hI)
    clear hI
    generalize fs j = f at *
    generalize caps j = cp at *
    go_wp2_with fail
    refine q.out.mono ?_
    rintro e w' ⟨r, rfl, hr⟩
    rcases hr with ⟨rfl, hI⟩ | ⟨hr, hE⟩
    · have HI := Lib.hid hI
      clear hI
      go_wp2
      go_roundw
      case rel => exact ⟨j + 1, by omega, by go_num, HI.out⟩
      case measure => simp [intOf]; omega
    · have e1 : (r == 0) = false := by simpa using hr
      have HE := Lib.hid (And.intro hr hE)
      clear hE hr
      go_wp2
      go_ret
      exact ⟨r, rfl, .inr HE.out⟩
  · have HI := Lib.hid hI
    clear hI
    go_wp2
    go_ret
    exact ⟨0, rfl, .inl ⟨rfl, HI.out⟩⟩
variable {W w : World} {G : Nat} {S : FsS} {F : Nat → Prop}
theorem esweep_any {a : Option Addr} {n c : Nat} {keep : List (List UInt8)} (m : Mach W w G S F) (hs : S.steps + 100 ≤ 500000) (hk : ∀ w' F', Turn w w' F F' → StrsAt w' (.slice a n c) keep) :
    Calls Tryz.prog 18 #[.pointer (some ⟨G, 0, none⟩), .slice a n c] w fun e w' => ∃ F', e = .returned (.int .i64 (S.sweep keep).2.2) ∧ Mach W w' G (S.sweep keep).1 F' ∧ Turn w w' F F' := by
  have q := Lib.hid (m.sweep hs hk)
  obtain ⟨⟨S', k, r⟩, hR⟩ : ∃ p, S.sweep keep = p := ⟨_, rfl⟩
  rw [hR] at q ⊢
  clear hR hk m
  go_enter Tryz.func18, Tryz.ntmps18
  go_wp2_with fail
  refine q.out.mono ?_
  rintro e w' ⟨F', rfl, hm, ht⟩
  have HP := Lib.hid (And.intro hm ht)
  clear q hm ht
  go_wp2_with fail
  go_ret
  exact ⟨F', rfl, HP.out.1, HP.out.2⟩
theorem strs_nil (w : World) : StrsAt w (.slice none 0 0) [] := ⟨none, 0, rfl, by decide, fun i x hx => by simp at hx⟩
theorem create1_any {p : Nat} (r : Int) (c0 : w.cell? ⟨p, 0, none⟩ = some (.int .i64 r)) : Calls Tryz.prog 40 #[.pointer (some ⟨p, 0, none⟩)] w fun e w' => e = .returned (.int .i64 r) ∧ w' = w := by
  go_enter Tryz.func40, Tryz.ntmps40
  go_wp2_with fail
  go_ret
  exact ⟨rfl, rfl⟩
theorem create2_any {p : Nat} (r : Int) (c0 : w.cell? ⟨p, 0, none⟩ = some (.int .i64 r)) : Calls Tryz.prog 41 #[.pointer (some ⟨p, 0, none⟩)] w fun e w' => e = .returned (.int .i64 r) ∧ w' = w := by
  go_enter Tryz.func41, Tryz.ntmps41
  go_wp2_with fail
  go_ret
  exact ⟨rfl, rfl⟩
theorem create3_any {p : Nat} (m : Mach W w G S F) (hs : S.steps + 100 ≤ 500000) (c0 : w.cell? ⟨p, 0, none⟩ = some (.pointer (some ⟨G, 0, none⟩))) :
    Calls Tryz.prog 42 #[.pointer (some ⟨p, 0, none⟩)] w fun e w' => ∃ F', e = .returned (.int .i64 (S.sweep []).2.2) ∧ Mach W w' G (S.sweep []).1 F' ∧ Turn w w' F F' := by
  have q := Lib.hid (esweep_any m hs (a := none) (n := 0) (c := 0) (fun w' _ _ => strs_nil w'))
  clear m
  go_enter Tryz.func42, Tryz.ntmps42
  go_wp2_with fail
  refine q.out.mono ?_
  rintro e w' ⟨F', rfl, hm, ht⟩
  have HP := Lib.hid (And.intro hm ht)
  clear q hm ht
  go_wp2_with fail
  go_ret
  exact ⟨F', rfl, HP.out.1, HP.out.2⟩
/-- Saved, with nothing in its way. -/
def SavedK (W w : World) (G : Nat) (N : Nm) (fl : Nat → Fl) (room : Int) (st : Nat) (F : Nat → Prop) (name b : List UInt8) (e : Ending) (w' : World) : Prop :=
  ∃ g F', fl g = Fl.new ∧ g ∉ N.ids ∧ e = .returned (.int .i64 0) ∧ Mach W w' G ⟨N.put name g, N.put name g, [], flSet fl g ⟨b, b, []⟩, room, st + 5, -1, false⟩ F' ∧ Turn w w' F F'
theorem create5_any {p p2 : Nat} {N sy : Nm} {mv : List Nm} {fl : Nat → Fl} {room : Int} {st : Nat} (b : List UInt8) (m : Mach W w G ⟨N, sy, mv, fl, room, st, -1, false⟩ F) (hs : st + 20 ≤ 500000) (hb : b.length ≤ 1048576) (ht : N.at (tmpB ++ metaK) = none) (hn : N.length < 64) (hroom : (sizeIn fl N : Int) + b.length ≤ room)
    (c0 : w.cell? ⟨p, 0, none⟩ = some (.pointer (some ⟨G, 0, none⟩))) (c1 : w.cell? ⟨p2, 0, none⟩ = some (.string (bs b))) :
    Calls Tryz.prog 45 #[.pointer (some ⟨p, 0, none⟩), .pointer (some ⟨p2, 0, none⟩)] w (SavedK W w G N fl room st F metaK b) := by
  have q := Lib.hid (m.saved metaK b hs hb (by decide) (by decide) ht hn hroom)
  have hm : (⟨#[109, 101, 116, 97]⟩ : ByteArray) = bs metaK := rfl
  clear m ht hroom
  go_enter Tryz.func45, Tryz.ntmps45
  go_wp2_with fail
  refine q.out.mono ?_
  rintro e w' ⟨g, F', h1, h2, rfl, h3, h4⟩
  have HP := Lib.hid (And.intro h1 (And.intro h2 (And.intro h3 h4)))
  clear q h1 h2 h3 h4
  go_wp2_with fail
  go_ret
  exact ⟨g, F', HP.out.1, HP.out.2.1, rfl, HP.out.2.2.1, HP.out.2.2.2⟩
end Go.Proofs.YtgagcncmlonciaaGreatDoor
