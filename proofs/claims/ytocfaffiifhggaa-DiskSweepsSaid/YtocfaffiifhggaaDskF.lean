/- All files but some are removed; a file is repaired. -/
import Derived.Test.YtocfaffiifhggaaDskE
namespace Go.Proofs.Ytocfaffiifhggaa
open Go.RowKit Go.Maps Go.WideMaps Go.ChangeShapes Go.WideShapes
attribute [local go_sem] bs_toList bs_size

def sweepLoop (keep : List (List UInt8)) : List (List UInt8) → FsS → Nat → FsS × Nat × Int
  | [], S, n => (S, n, 0)
  | x :: r, S, n => if x ∈ keep then sweepLoop keep r S n else if (S.remove x).2 ≠ 0 then ((S.remove x).1, n, (S.remove x).2) else sweepLoop keep r (S.remove x).1 (n + 1)
theorem sweepLoop_cons (keep : List (List UInt8)) (x : List UInt8) (r : List (List UInt8)) (S : FsS) (n : Nat) : sweepLoop keep (x :: r) S n =
    if x ∈ keep then sweepLoop keep r S n else if (S.remove x).2 ≠ 0 then ((S.remove x).1, n, (S.remove x).2) else sweepLoop keep r (S.remove x).1 (n + 1) := rfl
def FsS.sweep (S : FsS) (keep : List (List UInt8)) : FsS × Nat × Int :=
  if (sweepLoop keep S.names.keys S 0).2.2 ≠ 0 then sweepLoop keep S.names.keys S 0
  else if (sweepLoop keep S.names.keys S 0).2.1 = 0 then ((sweepLoop keep S.names.keys S 0).1, 0, 0)
  else ((sweepLoop keep S.names.keys S 0).1.syncDir.1, (sweepLoop keep S.names.keys S 0).2.1, (sweepLoop keep S.names.keys S 0).1.syncDir.2)

theorem sweep_eq (S : FsS) (keep : List (List UInt8)) : S.sweep keep = if (sweepLoop keep S.names.keys S 0).2.2 ≠ 0 then sweepLoop keep S.names.keys S 0
  else if (sweepLoop keep S.names.keys S 0).2.1 = 0 then ((sweepLoop keep S.names.keys S 0).1, 0, 0)
  else ((sweepLoop keep S.names.keys S 0).1.syncDir.1, (sweepLoop keep S.names.keys S 0).2.1, (sweepLoop keep S.names.keys S 0).1.syncDir.2) := rfl

def SweepPost (w : World) (G : Nat) (S : FsS) (F : Nat → Prop) (keep : List (List UInt8)) (e : Ending) (w' : World) : Prop :=
  ∃ F', e = .returned (.tuple #[.int .i64 ((S.sweep keep).2.1 : Nat), .int .i64 (S.sweep keep).2.2]) ∧ FsMem w' G (S.sweep keep).1 F' ∧ Turn w w' F F'

section
variable {w : World} {G : Nat} {S : FsS} {F : Nat → Prop}

set_option maxRecDepth 100000 in
set_option maxHeartbeats 4000000 in
theorem Sweep_any {kv : Value} {keep : List (List UInt8)} (h : FsMem w G S F) (hok : S.ok) (hs : S.steps + 100 ≤ 500000) (hk : ∀ w' F', Turn w w' F F' → StrsAt w' kv keep) :
    Calls Try.prog 13 #[.pointer (some ⟨G, 0, none⟩), kv] w (SweepPost w G S F keep) := by
  have q := Lib.hid (Fs_List_mem h hok)
  have hmem := h
  go_enter Try.func13, Try.ntmps13
  go_wp2_with fail
  refine q.out.mono ?_
  rintro e w1 ⟨⟨lv, rfl, hT⟩, hb⟩
  have hbase : ∀ k, lv.ownBlock = some k → w.heap.size ≤ k := by
    obtain ⟨_, _, _, hb, _⟩ := hT.form
    exact hb
  have hsafe : Safe w1 F lv S.names.keys := ⟨⟨_, hT⟩, fun k hk hF => by have := hmem.lt k hF; have := hbase k hk; omega⟩
  have hM1 := Lib.hid (h.below hb)
  have hT1 := Lib.hid (Turn.of_below (F := F) hb)
  obtain ⟨la, lc, rfl⟩ := hsafe.len
  have HS := Lib.hid hsafe
  have hkl : S.names.keys.length ≤ 64 := by
    have := hok.names_le
    show (S.names.map (·.1)).length ≤ 64
    simpa using this
  have hkn : ∀ x ∈ S.names.keys, x.length ≤ 1048576 := fun x hx => by
    obtain ⟨p, hp, rfl⟩ := List.mem_map.1 hx
    have := hok.names.3 p hp
    omega
  have HKN := Lib.hid hkn
  have HK := Lib.hid hk
  have HSW := Lib.hid (sweep_eq S keep)
  clear hT hb hbase hsafe hkn hk q
  generalize hK : S.names.keys = keys at *
  generalize hn : keys.length = n at *
  have Hn := Lib.hid hn
  clear hn hK
  go_wp2_with fail
  go_loopw [6, 13] (fun t i wr => ∃ (j : Nat) (m : Nat) (T : FsS) (Fj : Nat → Prop), j ≤ n ∧ i = .int .i64 (j : Int) ∧ t = .int .i64 (m : Int) ∧ m ≤ j ∧ FsMem wr G T Fj ∧ Turn w wr F Fj ∧ Safe wr Fj (.slice la keys.length lc) keys ∧ T.ok ∧ T.steps ≤ S.steps + j ∧ sweepLoop keep keys S 0 = sweepLoop keep (keys.drop j) T m) (fun _ i _ => n - (intOf i).toNat)
  case atStart => exact ⟨0, 0, S, F, Nat.zero_le _, rfl, rfl, Nat.le_refl _, hM1.out, hT1.out, by rw [Hn.out]; exact HS.out, hok, Nat.le_refl _, rfl⟩
  obtain ⟨j, m, T, Fj, hj, rfl, rfl, hmj, hM, hTT, hsf, okT, hsT, hloop⟩ := hrel
  have HL := Lib.hid hloop
  clear hloop
  rcases (show j < n ∨ j = n by omega) with hjn | rfl
  · have hjl : j < keys.length := by rw [Hn.out]; exact hjn
    obtain ⟨lg, rfl, lcell⟩ := hsf.cell (List.getElem?_eq_getElem hjl)
    have hxl := HKN.out keys[j] (List.getElem_mem hjl)
    have hdrop : keys.drop j = keys[j] :: keys.drop (j + 1) := List.drop_eq_getElem_cons hjl
    have hl2 := HL.out
    rw [hdrop] at hl2
    have HL2 := Lib.hid hl2
    clear hdrop hl2
    have q1 := Lib.hid (Contains_any keys[j] (HK.out wr Fj hTT))
    have q2 := Lib.hid (Fs_Remove_mem hM okT (by omega) keys[j] hxl)
    have okR := okT.remove keys[j]
    have hsR := remove_steps (S := T) keys[j]
    have HM := Lib.hid hM
    have HT := Lib.hid hTT
    have HSF := Lib.hid hsf
    clear hM hTT hsf
    generalize keys[j] = x at *
    go_wp2_with fail
    refine q1.out.mono ?_
    rintro e w2 ⟨rfl, rfl⟩
    by_cases hx : x ∈ keep
    · have hd : decide (x ∈ keep) = true := by simpa using hx
      rw [hd]
      have HE := HL2.out
      rw [sweepLoop_cons] at HE
      rw [if_pos hx] at HE
      have HE2 := Lib.hid HE
      clear HE hx hd
      go_wp2
      go_roundw
      case rel => exact ⟨j + 1, m, T, Fj, by omega, by go_num, rfl, by omega, HM.out, HT.out, HSF.out, okT, by omega, HE2.out⟩
      case measure => simp [intOf]; omega
    · have hd : decide (x ∈ keep) = false := by simpa using hx
      rw [hd]
      have HE := HL2.out
      rw [sweepLoop_cons] at HE
      rw [if_neg hx] at HE
      have HE2 := Lib.hid HE
      clear HE hx hd
      go_wp2_with fail
      refine q2.out.mono ?_
      rintro e w3 ⟨F3, hT3, he, hM3⟩
      subst he
      have hsf3 := HSF.out.turn hT3
      have HT3 := Lib.hid (HT.out.trans hT3)
      have HM3 := Lib.hid hM3
      have HSF3 := Lib.hid hsf3
      clear hT3 hM3 hsf3
      by_cases hr : (T.remove x).2 = 0
      · have HE3 := HE2.out
        rw [if_neg (by simpa using hr)] at HE3
        have HE4 := Lib.hid HE3
        simp only
        rw [hr]
        clear HE3 hr
        generalize (T.remove x).1 = T' at *
        go_wp2
        go_roundw
        case rel => exact ⟨j + 1, m + 1, T', F3, by omega, by go_num, by go_num, by omega, HM3.out, HT3.out, HSF3.out, okR, by omega, HE4.out⟩
        case measure => simp [intOf]; omega
      · have HE3 := HE2.out
        rw [if_pos hr] at HE3
        have hsw : S.sweep keep = ((T.remove x).1, m, (T.remove x).2) := by
          rw [HSW.out, HE3]
          simp only
          rw [if_pos hr]
        have e1 : ((T.remove x).2 == 0) = false := by simpa using hr
        have HP : SweepPost w G S F keep (.returned (.tuple #[.int .i64 (m : Int), .int .i64 (T.remove x).2])) w3 := ⟨F3, by rw [hsw], by rw [hsw]; exact HM3.out, HT3.out⟩
        have HPP := Lib.hid HP
        clear HE3 hr hsw HP
        simp only
        generalize (T.remove x).2 = r at *
        go_wp2
        go_ret2
        exact HPP.out
  · have hL := HL.out
    rw [List.drop_eq_nil_of_le (by rw [Hn.out]; exact Nat.le_refl _)] at hL
    have hL2 : sweepLoop keep keys S 0 = (T, m, 0) := hL
    by_cases hm : m = 0
    · subst hm
      have hsw : S.sweep keep = (T, 0, 0) := by
        rw [HSW.out, hL2]
        simp
      have HP : SweepPost w G S F keep (.returned (.tuple #[.int .i64 0, .int .i64 0])) wr := ⟨Fj, by rw [hsw]; rfl, by rw [hsw]; exact hM, hTT⟩
      have HPP := Lib.hid HP
      clear hL hL2 hsw HP hM hTT
      go_wp2
      go_ret2
      exact HPP.out
    · have e1 : (((m : Nat) : Int) == 0) = false := by simp; omega
      have hsw : S.sweep keep = (T.syncDir.1, m, T.syncDir.2) := by
        rw [HSW.out, hL2]
        simp only
        rw [if_neg (by simp), if_neg hm]
      have HSW2 := Lib.hid hsw
      have q3 := Lib.hid (Fs_SyncDir_mem hM okT (by omega))
      have HT := Lib.hid hTT
      clear hL hL2 hsw hM hTT
      go_wp2_with fail
      refine q3.out.mono ?_
      rintro e w3 ⟨F3, hT3, he, hM3⟩
      subst he
      have HP : SweepPost w G S F keep (.returned (.tuple #[.int .i64 (m : Int), .int .i64 T.syncDir.2])) w3 := ⟨F3, by rw [HSW2.out], by rw [HSW2.out]; exact hM3, HT.out.trans hT3⟩
      have HPP := Lib.hid HP
      clear HP hT3 hM3
      simp only
      generalize T.syncDir.2 = r at *
      go_wp2
      go_ret2
      exact HPP.out

/-- A repair's two steps. -/
def FsS.repair (S : FsS) (name : List UInt8) (n : Int) : FsS × Int :=
  if (S.read name).2 ≠ 0 then (S, (S.read name).2) else if ((S.read name).1.length : Int) = n then (S, 0)
  else if (S.cut name n).2 ≠ 0 then S.cut name n else (S.cut name n).1.sync name

set_option maxRecDepth 100000 in
theorem Repair1_any {p0 p1 p2 : Nat} (name : List UInt8) (n : Int) (h : FsMem w G S F) (hok : S.ok) (hs : S.steps ≤ 500000) (ht : name.length ≤ 1048576) (c0 : w.cell? ⟨p0, 0, none⟩ = some (.pointer (some ⟨G, 0, none⟩)))
    (c1 : w.cell? ⟨p1, 0, none⟩ = some (.string (bs name))) (c2 : w.cell? ⟨p2, 0, none⟩ = some (.int .i64 n)) :
    Calls Try.prog 47 #[.pointer (some ⟨p0, 0, none⟩), .pointer (some ⟨p1, 0, none⟩), .pointer (some ⟨p2, 0, none⟩)] w fun e w' => Did w w' G F e (S.cut name n) := by
  have q := Lib.hid (Fs_Cut_mem h hok hs name n ht)
  go_enter Try.func47, Try.ntmps47
  go_wp2_with fail
  refine q.out.mono ?_
  intro e w' hd
  have hR := Lib.hid hd
  obtain rfl := hd.form
  clear hd
  go_wp2
  go_ret
  exact hR.out
set_option maxRecDepth 100000 in
theorem Repair2_any {p0 p1 : Nat} (name : List UInt8) (h : FsMem w G S F) (hok : S.ok) (hs : S.steps ≤ 500000) (ht : name.length ≤ 1048576) (c0 : w.cell? ⟨p0, 0, none⟩ = some (.pointer (some ⟨G, 0, none⟩)))
    (c1 : w.cell? ⟨p1, 0, none⟩ = some (.string (bs name))) :
    Calls Try.prog 49 #[.pointer (some ⟨p0, 0, none⟩), .pointer (some ⟨p1, 0, none⟩)] w fun e w' => Did w w' G F e (S.sync name) := by
  have q := Lib.hid (Fs_Sync_mem h hok hs name ht)
  go_enter Try.func49, Try.ntmps49
  go_wp2_with fail
  refine q.out.mono ?_
  intro e w' hd
  have hR := Lib.hid hd
  obtain rfl := hd.form
  clear hd
  go_wp2
  go_ret
  exact hR.out
def rst (S : FsS) (name : List UInt8) (n : Int) : Nat → FsS × Int
  | 0 => (S, 0)
  | 1 => S.cut name n
  | _ => (S.cut name n).1.sync name
def RepI (W0 : World) (F0 : Nat → Prop) (G : Nat) (S : FsS) (name : List UInt8) (n : Int) (j : Nat) (w : World) : Prop := (∀ i, i ≤ j → (rst S name n i).2 = 0) ∧ ∃ F', FsMem w G (rst S name n j).1 F' ∧ Turn W0 w F0 F'
def RepE (W0 : World) (F0 : Nat → Prop) (G : Nat) (S : FsS) (name : List UInt8) (n : Int) (r : Int) (w : World) : Prop := ∃ j, j < 2 ∧ (∀ i, i ≤ j → (rst S name n i).2 = 0) ∧ r = (rst S name n (j + 1)).2 ∧ ∃ F', FsMem w G (rst S name n (j + 1)).1 F' ∧ Turn W0 w F0 F'
theorem RepI.step {W0 w w' : World} {F0 F' : Nat → Prop} {name : List UInt8} {n : Int} {j : Nat} {e : Ending} (hj : j < 2) (hall : ∀ i, i ≤ j → (rst S name n i).2 = 0) (hT : Turn W0 w F0 F') (h : Did w w' G F' e (rst S name n (j + 1))) :
    FirstPost (RepI W0 F0 G S name n (j + 1)) (RepE W0 F0 G S name n) e w' := by
  obtain ⟨F2, h1, rfl, h3⟩ := h
  refine ⟨_, rfl, ?_⟩
  by_cases h0 : (rst S name n (j + 1)).2 = 0
  · exact .inl ⟨h0, fun i hi => by
      rcases (show i ≤ j ∨ i = j + 1 by omega) with hi | rfl
      · exact hall i hi
      · exact h0, F2, h3, hT.trans h1⟩
  · exact .inr ⟨h0, j, hj, hall, rfl, F2, h3, hT.trans h1⟩

theorem repair_first {p0 p1 p2 row : Nat} (name : List UInt8) (n : Int) (h : FsMem w G S F) (hok : S.ok) (hs : S.steps + 20 ≤ 500000) (hn : name.length ≤ 1048576)
    (c0 : w.cell? ⟨p0, 0, none⟩ = some (.pointer (some ⟨G, 0, none⟩))) (c1 : w.cell? ⟨p1, 0, none⟩ = some (.string (bs name))) (c2 : w.cell? ⟨p2, 0, none⟩ = some (.int .i64 n))
    (r0 : w.cell? ⟨row, 0, none⟩ = some (.func (.func 47) #[] #[.pointer (some ⟨p0, 0, none⟩), .pointer (some ⟨p1, 0, none⟩), .pointer (some ⟨p2, 0, none⟩)]))
    (r1 : w.cell? ⟨row, 1, none⟩ = some (.func (.func 49) #[] #[.pointer (some ⟨p0, 0, none⟩), .pointer (some ⟨p1, 0, none⟩)]))
    (n0 : ¬ F p0) (n1 : ¬ F p1) (n2 : ¬ F p2) (nr : ¬ F row) :
    Calls Try.prog 39 #[.slice (some ⟨row, 0, none⟩) 2 2] w (FirstPost (RepI w F G S name n 2) (RepE w F G S name n)) := by
  have hcs := cut_steps (S := S) name n
  refine first_any 2 row (fun j => match j with | 0 => 47 | _ => 49)
    (fun j => match j with | 0 => #[.pointer (some ⟨p0, 0, none⟩), .pointer (some ⟨p1, 0, none⟩), .pointer (some ⟨p2, 0, none⟩)] | _ => #[.pointer (some ⟨p0, 0, none⟩), .pointer (some ⟨p1, 0, none⟩)])
    (RepI w F G S name n) _ (by omega) ?_ ?_ ?_ ⟨fun i hi => by cases Nat.le_zero.1 hi; rfl, F, h, Turn.refl _ _⟩
  · rintro j hj w' ⟨_, F', _, hT⟩
    match j, hj with
    | 0, _ => exact hT.kept.cell r0 nr
    | 1, _ => exact hT.kept.cell r1 nr
  · intro j hj W
    match j, hj with
    | 0, _ => go_simp
    | 1, _ => go_simp
  · rintro j hj w' ⟨hall, F', hM, hT⟩
    have k0 := hT.kept.cell c0 n0
    have k1 := hT.kept.cell c1 n1
    have k2 := hT.kept.cell c2 n2
    match j, hj with
    | 0, _ => exact (Repair1_any name n hM hok (show S.steps ≤ 500000 by omega) hn k0 k1 k2).mono fun e w' hd => RepI.step (j := 0) (by omega) hall hT hd
    | 1, _ => exact (Repair2_any name hM (hok.cut name n) (show (S.cut name n).1.steps ≤ 500000 by omega) hn k0 k1).mono fun e w' hd => RepI.step (j := 1) (by omega) hall hT hd

set_option maxRecDepth 100000 in
set_option maxHeartbeats 4000000 in
theorem Repair_any (name : List UInt8) (n : Int) (h : FsMem w G S F) (hok : S.ok) (hs : S.steps + 20 ≤ 500000) (hn : name.length ≤ 1000000) :
    Calls Try.prog 17 #[.pointer (some ⟨G, 0, none⟩), .string (bs name), .int .i64 n] w fun e w' => Did w w' G F e (S.repair name n) := by
  have hlt := h.lt
  obtain ⟨B3, c0, c1, c2⟩ := boxes3 w (.pointer (some ⟨G, 0, none⟩)) (.string (bs name)) (.int .i64 n) 24 9 3
  have hM3 := h.below B3
  have q1 := Lib.hid (Fs_Read_mem hM3 name (by omega))
  have hrl : (S.read name).1.length ≤ 1099511627776 := by
    unfold FsS.read
    split
    · simp
    · rename_i g _
      have := (hok.files g).nw_le
      unfold bytesMost at this
      simp only
      omega
  have HEQ := Lib.hid (show S.repair name n = if (S.read name).2 ≠ 0 then (S, (S.read name).2) else if ((S.read name).1.length : Int) = n then (S, 0) else if (S.cut name n).2 ≠ 0 then S.cut name n else (S.cut name n).1.sync name from rfl)
  have HB := Lib.hid B3
  have HM := Lib.hid hM3
  have HC := Lib.hid (And.intro c0 (And.intro c1 c2))
  have HLT := Lib.hid hlt
  clear B3 c0 c1 c2 hM3 hlt
  generalize (S.read name).1 = rd at *
  generalize (S.read name).2 = re at *
  by_cases hre : re = 0
  · subst hre
    by_cases hl : (rd.length : Int) = n
    · subst hl
      have HP := Lib.hid (show Did w _ G F (.returned (.int .i64 0)) (S.repair name (rd.length : Int)) by rw [HEQ.out, if_neg (by simp), if_pos rfl]; exact did_none HM.out HB.out 0)
      go_enter Try.func17, Try.ntmps17
      go_wp2_with fail
      refine q1.out.mono ?_
      rintro e w' ⟨rfl, rfl⟩
      go_wp2
      go_ret
      exact HP.out
    · have e1 : ((rd.length : Int) == n) = false := by simpa using hl
      have HEQ2 := Lib.hid (show S.repair name n = if (S.cut name n).2 ≠ 0 then S.cut name n else (S.cut name n).1.sync name by rw [HEQ.out, if_neg (by simp), if_neg hl])
      clear hl
      go_enter Try.func17, Try.ntmps17
      go_wp2_with fail
      refine q1.out.mono ?_
      rintro e w' ⟨rfl, rfl⟩
      go_wp2_with fail
      generalize hW3 : ((w.alloc (.cells #[.pointer (some ⟨G, 0, none⟩)] 24)).alloc (.cells #[.string (bs name)] 9)).alloc (.cells #[.int .i64 n] 3) = W3 at *
      have hz3 : W3.heap.size = w.heap.size + 1 + 1 + 1 := by rw [← hW3]; simp
      clear hW3
      have hM4 := HM.out.below (one_step W3 (.cells #[.func (.func 47) #[] #[.pointer (some ⟨w.heap.size, 0, none⟩), .pointer (some ⟨w.heap.size + 1, 0, none⟩), .pointer (some ⟨w.heap.size + 1 + 1, 0, none⟩)], .func (.func 49) #[] #[.pointer (some ⟨w.heap.size, 0, none⟩), .pointer (some ⟨w.heap.size + 1, 0, none⟩)]] 67))
      have hrw : Blk (W3.alloc (.cells #[.func (.func 47) #[] #[.pointer (some ⟨w.heap.size, 0, none⟩), .pointer (some ⟨w.heap.size + 1, 0, none⟩), .pointer (some ⟨w.heap.size + 1 + 1, 0, none⟩)], .func (.func 49) #[] #[.pointer (some ⟨w.heap.size, 0, none⟩), .pointer (some ⟨w.heap.size + 1, 0, none⟩)]] 67)) (w.heap.size + 1 + 1 + 1) 67 #[.func (.func 47) #[] #[.pointer (some ⟨w.heap.size, 0, none⟩), .pointer (some ⟨w.heap.size + 1, 0, none⟩), .pointer (some ⟨w.heap.size + 1 + 1, 0, none⟩)], .func (.func 49) #[] #[.pointer (some ⟨w.heap.size, 0, none⟩), .pointer (some ⟨w.heap.size + 1, 0, none⟩)]] := by
        have := Blk.new W3 67 #[.func (.func 47) #[] #[.pointer (some ⟨w.heap.size, 0, none⟩), .pointer (some ⟨w.heap.size + 1, 0, none⟩), .pointer (some ⟨w.heap.size + 1 + 1, 0, none⟩)], .func (.func 49) #[] #[.pointer (some ⟨w.heap.size, 0, none⟩), .pointer (some ⟨w.heap.size + 1, 0, none⟩)]]
        rwa [hz3] at this
      have hB4 := one_step W3 (.cells #[.func (.func 47) #[] #[.pointer (some ⟨w.heap.size, 0, none⟩), .pointer (some ⟨w.heap.size + 1, 0, none⟩), .pointer (some ⟨w.heap.size + 1 + 1, 0, none⟩)], .func (.func 49) #[] #[.pointer (some ⟨w.heap.size, 0, none⟩), .pointer (some ⟨w.heap.size + 1, 0, none⟩)]] 67)
      generalize W3.alloc (.cells #[.func (.func 47) #[] #[.pointer (some ⟨w.heap.size, 0, none⟩), .pointer (some ⟨w.heap.size + 1, 0, none⟩), .pointer (some ⟨w.heap.size + 1 + 1, 0, none⟩)], .func (.func 49) #[] #[.pointer (some ⟨w.heap.size, 0, none⟩), .pointer (some ⟨w.heap.size + 1, 0, none⟩)]] 67) = W4 at *
      have k0 := (Below.cell hB4 (World.block_lt_of_cell? _ _ HC.out.1)).trans HC.out.1
      have k1 := (Below.cell hB4 (World.block_lt_of_cell? _ _ HC.out.2.1)).trans HC.out.2.1
      have k2 := (Below.cell hB4 (World.block_lt_of_cell? _ _ HC.out.2.2)).trans HC.out.2.2
      have hnF : ∀ i, ¬ F (w.heap.size + i) := fun i e => by have := HLT.out _ e; omega
      have hcs := cut_steps (S := S) name n
      have q := repair_first (p0 := w.heap.size) (p1 := w.heap.size + 1) (p2 := w.heap.size + 1 + 1) (row := w.heap.size + 1 + 1 + 1) name n hM4 hok hs (by omega) k0 k1 k2 ((Blk.cell hrw 0).trans rfl) ((Blk.cell hrw 1).trans rfl) (hnF 0) (hnF 1) (hnF 2) (hnF 3)
      have Q := Lib.hid q
      have HT4 := Lib.hid ((Turn.of_below (F := F) HB.out).trans (Turn.of_below hB4))
      clear q hrw hB4 k0 k1 k2 hnF hM4
      refine Q.out.mono ?_
      rintro e w9 ⟨r, rfl, hr⟩
      have HP : Did w w9 G F (.returned (.int .i64 r)) (S.repair name n) := by
        rw [HEQ2.out]
        rcases hr with ⟨rfl, hall, F9, hM9, hT9⟩ | ⟨hr, j, hj, hall, rfl, F9, hM9, hT9⟩
        · have h1 : (S.cut name n).2 = 0 := hall 1 (by omega)
          have h2 : ((S.cut name n).1.sync name).2 = 0 := hall 2 (by omega)
          rw [if_neg (by simpa using h1)]
          exact ⟨F9, HT4.out.trans hT9, by rw [h2], hM9⟩
        · match j, hj with
          | 0, _ =>
            have hr' : (S.cut name n).2 ≠ 0 := hr
            rw [if_pos hr']
            exact ⟨F9, HT4.out.trans hT9, rfl, hM9⟩
          | 1, _ =>
            have h1 : (S.cut name n).2 = 0 := hall 1 (by omega)
            rw [if_neg (by simpa using h1)]
            exact ⟨F9, HT4.out.trans hT9, rfl, hM9⟩
      have HPP := Lib.hid HP
      clear HP hr
      go_wp2
      go_ret
      exact HPP.out
  · have e1 : (re == 0) = false := by simpa using hre
    have HP := Lib.hid (show Did w _ G F (.returned (.int .i64 re)) (S.repair name n) by rw [HEQ.out, if_pos hre]; exact did_none HM.out HB.out re)
    clear hre
    go_enter Try.func17, Try.ntmps17
    go_wp2_with fail
    refine q1.out.mono ?_
    rintro e w' ⟨rfl, rfl⟩
    go_wp2
    go_ret
    exact HP.out
end
end Go.Proofs.Ytocfaffiifhggaa
