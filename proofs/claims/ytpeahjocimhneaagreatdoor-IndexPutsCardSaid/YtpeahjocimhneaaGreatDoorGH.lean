/- Entries of generations 2 and 3 as bytes: lengths; what the walk holds in memory. Entries of generation 2 as bytes: the walk. Labels in order, and who has each, one by one: an iterator: the walk. A loop over labels and who has each: what is used of them; a range over a function of two. -/
import Derived.Test.YtpeahjocimhneaaGreatDoorGG
namespace Go.Proofs.YtpeahjocimhneaaGreatDoor
open Go.RowKit Go.Maps Go.WideMaps
attribute [local go_sem] bs_toList bs_size

theorem tab_len (g : Int) : ∀ (sy : List (List UInt8)) (last : List UInt8), (∀ s ∈ sy, s.length ≤ 48) → (tabB g last sy).length ≤ sy.length * 80
  | [], _, _ => Nat.le_refl _
  | s :: sy, last, h => by
    have h1 := tab_len g sy s fun x hx => h x (List.mem_cons_of_mem _ hx)
    have h2 := h s List.mem_cons_self
    have h3 := (Num.small_len (common last s)).2
    have h4 := (Num.small_len (s.drop (common last s)).length).2
    have h5 := (Num.small_len s.length).2
    rw [tabB, List.length_append, List.length_cons]
    split
    · rw [List.length_append, Num.text_len, List.length_drop] at *
      omega
    · rw [Num.text_len]
      omega
theorem lab2_len (sy : List (List UInt8)) (L : List Lb) : (L.flatMap (lab2B sy)).length ≤ L.length * 20 := by
  induction L with
  | nil => exact Nat.le_refl _
  | cons y L ih =>
    have h1 := (Num.small_len (placeI sy y.1)).2
    have h2 := (Num.small_len (placeI sy y.2)).2
    rw [List.flatMap_cons, List.length_append, List.length_cons]
    unfold lab2B at *
    rw [List.length_append]
    omega
theorem tail2_len (g : Int) (a x : En) : (tail2B g a x).length ≤ 30 := by
  unfold tail2B
  split
  · have h1 := (Num.small_len (Num.zigI (x.last - a.last)).toNat).2
    have h2 := (Num.small_len (Num.zigI (x.off - a.off - a.len)).toNat).2
    have h3 := (Num.small_len (u64N x.len)).2
    rw [List.length_append, List.length_append]
    omega
  · have h1 := (Num.small_len (u64N x.last)).2
    have h2 := (Num.small_len (u64N x.off)).2
    have h3 := (Num.small_len (u64N x.len)).2
    rw [List.length_append, List.length_append]
    omega
theorem ents2_len (g : Int) (sy : List (List UInt8)) : ∀ (l : List En) (a : En), (∀ x ∈ l, x.labels.length ≤ 6) → (ents2B g sy a l).length ≤ l.length * 200
  | [], _, _ => Nat.le_refl _
  | x :: l, a, h => by
    have h1 := ents2_len g sy l x fun y hy => h y (List.mem_cons_of_mem _ hy)
    have h2 := h x List.mem_cons_self
    have h3 := lab2_len sy x.labels
    have h4 := tail2_len g a x
    have h5 := (Num.small_len x.labels.length).2
    rw [ents2B, List.length_append, List.length_cons]
    unfold ent2B
    rw [List.length_append, List.length_append]
    omega
theorem head_len (g : Int) (E : List En) (hr : ∀ x ∈ E, rightB x = true) (hE : E.length ≤ 20) : (headI E g).length ≤ 100000 := by
  have h6 : ∀ x ∈ E, x.labels.length ≤ 6 := fun x hx => (labs_len (hr x hx)).1
  have h1 := sym_len h6 hE
  have h2 := tab_len g (symI E) [] fun s hs => texts_short hr s ((mem_symI E s).1 hs)
  have h3 := ents2_len g (symI E) E zeroEn h6
  have h4 := (Num.small_len (symI E).length).2
  have h5 := (Num.small_len E.length).2
  unfold headI
  rw [List.length_append, List.length_append, List.length_append]
  omega
theorem bld_kept {B b : Nat} {l : List UInt8} {w w' : World} {S : Nat → Prop} (h : BldAt B b l w) (hk : Kept w w' S) (hb : ¬ S b) (ht : ∀ g, S g → tag w g ≠ some (some 5)) : BldAt B b l w' := by
  have key : ∀ {p : Value}, Lib.BuilderAtF 97 5 B b p (Lib.byteCells l) w → Lib.BuilderAtF 97 5 B b p (Lib.byteCells l) w' := fun {p} h => by
    obtain ⟨h1, v, h2, h3, h4⟩ := h
    refine ⟨h1, v, (hk.block b (heap_lt h2) hb).trans h2, ⟨h3.1, ?_⟩, h4⟩
    rcases h3.2 with h | ⟨g, cap, cur, fz, e1, e2, e3, e4⟩
    · exact .inl h
    · refine .inr ⟨g, cap, cur, fz, e1, e2, (hk.block g (heap_lt e3) (fun hs => ht g hs ?_)).trans e3, e4⟩
      unfold tag
      rw [e3]
      rfl
  exact h.elim (fun h => .inl (key h)) (fun h => .inr (key h))
/-- What the walk holds: the bytes that are written, the symbols, and where each is. -/
structure MIs (w : World) (B m : Nat) (A : List UInt8) (SY : List (List UInt8)) (sv : Value) (D : DataW Unit) (n : Nat) : Prop where
  bld : BldAt B B A w
  row : w.ownsRow (B + 1) 9 1 sv SY.length (strC SY)
  map : w.ownsMap Tryz.prog 9 intR m n D
  lo : B < m ∧ B < w.heap.size
section
variable {w w' : World} {B m n : Nat} {A : List UInt8} {SY : List (List UInt8)} {sv : Value} {D : DataW Unit}
theorem MIs.below (h : MIs w B m A SY sv D n) (hb : Below w.heap.size w w') : MIs w' B m A SY sv D n :=
  ⟨h.bld.below hb, ownsRow_kept h.row (Kept.of_below (S := fun _ => False) hb) (fun _ _ e => e), ownsMap_kept h.map (Kept.of_below (S := fun _ => False) hb) id, h.lo.1, Nat.lt_of_lt_of_le h.lo.2 hb.size⟩
theorem MIs.write {s : List UInt8} (h : MIs w B m A SY sv D n) (hB : BldAt B B (A ++ s) w') (hk : BK B B w w') : MIs w' B m (A ++ s) SY sv D n :=
  ⟨hB, hk.row h.row (fun e => by have := (h.row.lt _ e).1; omega) (by decide), hk.map h.map (by have := h.lo.1; omega), h.lo.1, Nat.lt_of_lt_of_le h.lo.2 hk.1.size⟩
theorem MIs.put {D' : DataW Unit} {n' : Nat} (h : MIs w B m A SY sv D n) (hm : w'.ownsMap Tryz.prog 9 intR m n' D') (hg : w.grownBy w' (some m)) : MIs w' B m A SY sv D' n' := by
  have hk : Kept w w' (fun k => k = m) := Kept.of_grown hg fun k e => (Option.some.inj e).symm
  have ht := tag_map h.map
  refine ⟨bld_kept h.bld hk (by have := h.lo.1; omega) (fun g e => by subst e; rw [ht]; simp), ownsRow_kept h.row hk (fun b e e2 => ?_), hm, h.lo.1, Nat.lt_of_lt_of_le h.lo.2 hg.size⟩
  subst e2
  rw [tag_row h.row e] at ht
  simp at ht
theorem MIs.sym (h : MIs w B m A SY sv D n) {i : Nat} (hi : i < SY.length) : ∃ g c, sv = .slice (some ⟨g, 0, none⟩) SY.length c ∧ w.cell? ⟨g, i, none⟩ = some (.string (bs SY[i])) := by
  rcases h.row.2 with ⟨_, e⟩ | ⟨g, cap, cur, e, _⟩
  · omega
  · refine ⟨g, cap, e, ?_⟩
    have := h.row.cells (g := g) (by rw [e]; rfl) i _ (by unfold strC; rw [List.getElem?_map, List.getElem?_eq_getElem hi]; rfl)
    rwa [add_at] at this
theorem MIs.look (h : MIs w B m A SY sv D n) (hd : KeyMap D SY) {s : List UInt8} (hs : s ∈ SY) (hl : s.length ≤ 1048576) : ∀ W, Below w.heap.size w W → (Instr.lookup 107 (.map (some m)) (.string (bs s)) false).run Tryz.prog W = .ok (.int .i64 (placeI SY s : Nat)) W := fun W hW => by
  have hkey : keyOf Tryz.prog 9 (.string (bs s)) = some (.string s) := keyOf_string_mk Tryz.underlying9 (by rw [bs_size]; unfold maxLen; omega)
  have hm := ownsMap_kept h.map (Kept.of_below (S := fun _ => False) hW) id
  obtain ⟨v, ps, hrun, hR⟩ := hm.lookup (string_keyed Tryz.underlying9) Tryz.underlying107 (z := .int .i64 0) (Tryz.zeroValue3 W) (zd := .lit (.int .i64 0)) (zp := []) rfl hkey
  rw [(hd s).2 hs] at hR
  rw [hrun, intR_lit hR]
  rfl
end
end Go.Proofs.YtpeahjocimhneaaGreatDoor
namespace Go.Proofs.YtpeahjocimhneaaGreatDoor
open Go.RowKit Go.Maps Go.WideMaps
attribute [local go_sem] bs_toList bs_size

set_option maxRecDepth 100000 in
set_option maxHeartbeats 8000000 in
theorem more2_any (E : List En) (v : Value) (w : World) (h : EntsAt w v E) (hr : ∀ x ∈ E, rightB x = true) (hE : E.length ≤ 20) :
    Calls Tryz.prog 31 #[v, .int .i64 2] w fun e w' => e = .returned (.string (bs (moreI E 2))) ∧ Below w.heap.size w w' := by
  have hmm := @run_makeMap Tryz.prog
  have h6 : ∀ x ∈ E, x.labels.length ≤ 6 := fun x hx => (labs_len (hr x hx)).1
  have hT : (textsOf E).length ≤ 1048576 := by have := texts_len E h6; omega
  have hSl := sym_len h6 hE
  have HSb := Lib.hid (show ∀ s ∈ symI E, s.length ≤ 48 from fun s hs => texts_short hr s ((mem_symI E s).1 hs))
  have HHL := Lib.hid (head_len 2 E hr hE)
  have HND := Lib.hid (symI_nodup E)
  have HMEM := Lib.hid (fun x (hx : x ∈ E) y (hy : y ∈ x.labels) => (show y.1 ∈ symI E ∧ y.2 ∈ symI E from ⟨(mem_symI E _).2 (texts_mem hx hy).1, (mem_symI E _).2 (texts_mem hx hy).2⟩))
  have HRT := Lib.hid hr
  have HH := Lib.hid (show headI E 2 = Num.small (symI E).length ++ (tabB 2 [] (symI E) ++ (Num.small E.length ++ ents2B 2 (symI E) zeroEn E)) from rfl)
  have HMO := Lib.hid (show moreI E 2 = headI E 2 from List.append_nil _)
  have B0 := BldAt.fresh w
  have b0 := one_alloc w (.cells #[.pointer none, .slice none 0 0] 97)
  have qs := Lib.hid (ISymbols_any E v _ (h.below b0) hT)
  rw [World.size_alloc] at qs
  have H := Lib.hid h
  obtain ⟨a, c, rfl, hnil, hl, hlc, hx⟩ := h
  have HX := Lib.hid hx
  clear hx h6 hT hr
  generalize symI E = SY at *
  generalize hHD : headI E 2 = HEAD at *
  clear hHD

  go_enter Tryz.func31, Tryz.ntmps31
  go_wp2_with fail
  refine qs.out.mono ?_
  rintro e w1 ⟨sv, rfl, hrow, hb1⟩
  have BA := b0.trans (hb1.mono (by simp))
  have BB := B0.below (hb1.mono (by simp))
  have hw1 : w.heap.size + 1 ≤ w1.heap.size := by have := hb1.size; rwa [World.size_alloc] at this
  have m0 : (w1.alloc (.map #[] 0)).ownsMap Tryz.prog 9 intR w1.heap.size 0 (.map []) := World.ownsMap_made w1 Tryz.prog 9 intR
  have M0 : MIs (w1.alloc (.map #[] 0)) w.heap.size w1.heap.size [] SY sv (.map []) 0 := ⟨BB.below (one_alloc _ _), World.ownsRow.alloc hrow _, m0, by omega, by simp; omega⟩
  have BM := BA.trans ((one_alloc w1 (.map #[] 0)).mono BA.size)
  generalize hm : w1.heap.size = m at *
  obtain ⟨sa, sc, rfl⟩ := row_form hrow
  have q1 := Lib.hid (fun W => ismall_any (SY.length : Int) W)
  have hu : u64N (SY.length : Int) = SY.length := by unfold u64N; omega
  rw [hu] at q1
  have t1 := (Num.small_len SY.length).2
  have q2 := Lib.hid (fun W (hW : MIs W w.heap.size m [] SY (.slice sa SY.length sc) (.map []) 0) => write_k w.heap.size w.heap.size [] (Num.small SY.length) W hW.bld (by simp; omega) (by have := hW.lo.2; omega))
  generalize hn1 : Num.small SY.length = n1 at *
  clear qs hrow hb1 b0 B0 BA BB m0 hu hn1
  go_wp2_with fail
  refine (q1.out _).mono ?_
  rintro e w2 ⟨rfl, hb2⟩
  have M1 := M0.below hb2
  have B1 := BM.trans (hb2.mono BM.size)
  clear M0 BM hb2 q1
  go_wp2_with fail
  refine (q2.out _ M1).mono ?_
  rintro e w3 ⟨rfl, hB3, hk3⟩
  have M2 := M1.write hB3 hk3
  have B2 := B1.trans hk3.1
  have HA0 := Lib.hid (show ([] ++ n1) ++ (tabB 2 [] (SY.drop 0) ++ (Num.small E.length ++ ents2B 2 SY zeroEn E)) = HEAD by rw [HH.out, List.nil_append]; rfl)
  generalize ([] ++ n1 : List UInt8) = A0 at *
  clear q2 M1 B1 hB3 hk3 hm hw1 HH
  go_wp2_with fail
  go_loopw [31, 8] (fun vi vl wr => ∃ (i n : Nat) (last A : List UInt8) (D : DataW Unit), i ≤ SY.length ∧ vi = .int .i64 (i : Int) ∧ vl = .string (bs last) ∧ last.length ≤ 48 ∧ n ≤ i ∧ MIs wr w.heap.size m A SY (.slice sa SY.length sc) D n ∧ Hid (KeyMap D (SY.take i)) ∧ Below w.heap.size w wr ∧ Hid (A ++ (tabB 2 last (SY.drop i) ++ (Num.small E.length ++ ents2B 2 SY zeroEn E)) = HEAD)) (fun vi _ _ => SY.length - (intOf vi).toNat)
  case atStart => exact ⟨0, 0, [], A0, _, Nat.zero_le _, rfl, rfl, Nat.zero_le _, Nat.le_refl _, M2, Lib.hid keyMap_nil, B2, HA0⟩
  clear M2 B2 HA0
  obtain ⟨i, n, last, A, D, hi, rfl, rfl, hll, hni, M, HK, hb, HA⟩ := hrel
  have hAl : A.length ≤ 100000 := by
    have h1 := congrArg List.length HA.out
    rw [List.length_append] at h1
    have := HHL.out
    omega
  rcases (show i < SY.length ∨ i = SY.length by omega) with hil | rfl
  · obtain ⟨g, gc, e1, hc⟩ := M.sym hil
    obtain ⟨rfl, _, rfl⟩ := Value.slice.inj e1
    have hs48 := HSb.out SY[i] (List.getElem_mem hil)
    have HK2 := Lib.hid (keyMap_new M.map.isMap HK.out (l := SY[i]) (fun hm => by
      obtain ⟨j, hj, e⟩ := List.mem_iff_getElem.1 hm
      rw [List.getElem_take] at e
      have hj' : j < i := by rw [List.length_take] at hj; omega
      exact (List.pairwise_iff_getElem.1 (show SY.Pairwise (fun a b => a ≠ b) from HND.out) j i (by omega) hil hj') e))
    rw [← List.take_succ_eq_append_getElem hil, List.length_take, Nat.min_eq_left (show i ≤ SY.length by omega)] at HK2
    have hkey : keyOf Tryz.prog 9 (.string (bs SY[i])) = some (.string SY[i]) := keyOf_string_mk Tryz.underlying9 (by rw [bs_size]; unfold maxLen; omega)
    have HMP := Lib.hid M.map
    have HAT : tabB 2 last (SY.drop i) = (if (2 : Int) = 3 then Num.small (common last SY[i]) ++ Num.text (SY[i].drop (common last SY[i])) else Num.text SY[i]) ++ tabB 2 SY[i] (SY.drop (i + 1)) := by rw [List.drop_eq_getElem_cons hil, tabB]
    rw [HAT] at HA
    clear HAT e1 HK
    generalize SY[i] = s at *
    have HM := Lib.hid (fun W5 (hown : W5.ownsMap Tryz.prog 9 intR m (n + 1) (D.put (.string s) (.lit (.int .i64 (i : Nat))))) (hg : wr.grownBy W5 (some m)) => M.put hown hg)
    have HB := Lib.hid (fun W5 (hg : wr.grownBy W5 (some m)) => hb.grown hg hb.size (fun k e => by have := Option.some.inj e; have := M.lo.1; omega))

    rw [if_neg (by decide)] at HA
    have hx0 : (bs s).extract 0 s.length = bs s := by rw [bs_extract]; simp
    have q1 := Lib.hid (fun W => num_Text_any s W (by omega))
    have t1 : (Num.text s).length ≤ 100 := by rw [Num.text_len]; have := (Num.small_len s.length).2; omega
    have HA2 := Lib.hid (show (A ++ Num.text s) ++ (tabB 2 s (SY.drop (i + 1)) ++ (Num.small E.length ++ ents2B 2 SY zeroEn E)) = HEAD by rw [← HA.out]; simp [List.append_assoc])
    generalize Num.text s = ts at *
    have q2 := Lib.hid (fun W D n (hW : MIs W w.heap.size m A SY (.slice (some ⟨g, 0, none⟩) SY.length sc) D n) => write_k w.heap.size w.heap.size A ts W hW.bld (by omega) (by have := hW.lo.2; omega))
    clear HA M hb
    go_wp2_with (at_mapUpdate; refine wpList_mapUpdate_own _ rfl _ _ _ 107 rfl 9 3 (string_keyed Tryz.underlying9) Tryz.underlying107 intR m n D rfl HMP.out (by unfold maxLen; omega) _ _ _ rfl rfl hkey (.lit (.int .i64 (i : Int))) [] rfl ?_; intro w5 hown5 hgrow5; have M5 := HM.out w5 hown5 hgrow5; have b5 := HB.out w5 hgrow5; clear hown5 hgrow5 HM HB HMP)
    refine (q1.out _).mono ?_
    rintro e w6 ⟨rfl, hb6⟩
    have M6 := M5.below hb6
    have b6 := b5.trans (hb6.mono b5.size)
    clear M5 b5 hb6
    go_wp2_with fail
    refine (q2.out _ _ _ M6).mono ?_
    rintro e w7 ⟨rfl, hB7, hk7⟩
    have M7 := M6.write hB7 hk7
    have b7 := b6.trans hk7.1
    clear M6 b6 hB7 hk7
    go_wp2_with fail
    go_roundw
    case rel => exact ⟨i + 1, n + 1, s, A ++ ts, _, by omega, by go_num, rfl, hs48, by omega, M7, HK2, b7, HA2⟩
    case measure => simp [intOf]; omega
  · rw [List.drop_length, show tabB 2 last [] = [] from rfl, List.nil_append] at HA
    rw [List.take_length] at HK
    have q1 := Lib.hid (fun W => ismall_any (E.length : Int) W)
    have hu : u64N (E.length : Int) = E.length := by unfold u64N; omega
    rw [hu] at q1
    have t1 := (Num.small_len E.length).2
    have HA1 := Lib.hid (show (A ++ Num.small E.length) ++ ents2B 2 SY zeroEn (E.drop 0) = HEAD by rw [← HA.out]; simp [List.append_assoc])
    generalize Num.small E.length = ne at *
    have q2 := Lib.hid (fun W (hW : MIs W w.heap.size m A SY (.slice sa SY.length sc) D n) => write_k w.heap.size w.heap.size A ne W hW.bld (by omega) (by have := hW.lo.2; omega))
    clear HA hu
    go_wp2_with fail
    refine (q1.out _).mono ?_
    rintro e w2 ⟨rfl, hb2⟩
    have M1 := M.below hb2
    have b1 := hb.trans (hb2.mono hb.size)
    clear M hb hb2 q1
    go_wp2_with fail
    refine (q2.out _ M1).mono ?_
    rintro e w3 ⟨rfl, hB3, hk3⟩
    have M2 := (M1.write hB3 hk3).below (one_alloc w3 (.cells #[.slice none 0 0, .int .i64 0, .int .i64 0, .int .i64 0] 59))
    have b2 := b1.trans hk3.1
    have b3 := b2.alloc b2.size (.cells #[.slice none 0 0, .int .i64 0, .int .i64 0, .int .i64 0] 59)
    have kH := Blk.new w3 59 #[.slice none 0 0, .int .i64 0, .int .i64 0, .int .i64 0]
    have hwH : w.heap.size < w3.heap.size := (M1.write hB3 hk3).lo.2
    clear M1 b1 hB3 hk3 q2 b2
    generalize hH : w3.heap.size = AH at *
    go_wp2_with fail
    go_loopw [60] (fun vi wr => ∃ (i : Nat) (A : List UInt8) (ah : En) (av : Value), i ≤ E.length ∧ vi = .int .i64 (i : Int) ∧ MIs wr w.heap.size m A SY (.slice sa SY.length sc) D n ∧ Blk wr AH 59 #[av, .int .i64 ah.last, .int .i64 ah.off, .int .i64 ah.len] ∧ numsOk ah ∧ Below w.heap.size w wr ∧ Hid (A ++ ents2B 2 SY ah (E.drop i) = HEAD)) (fun vi _ => E.length - (intOf vi).toNat)
    case atStart => exact ⟨0, _, zeroEn, _, Nat.zero_le _, rfl, M2, kH, ⟨by simp [zeroEn], by simp [zeroEn], by simp [zeroEn], by simp [zeroEn], by simp [zeroEn], by simp [zeroEn]⟩, b3, HA1⟩
    clear M2 kH b3 HA1 hH hAl
    obtain ⟨i, A, ah, av, hi, rfl, M, kH, hah, hb, HA⟩ := hrel
    have hAl : A.length ≤ 100000 := by
      have h1 := congrArg List.length HA.out
      rw [List.length_append] at h1
      have := HHL.out
      omega
    rcases (show i < E.length ∨ i = E.length by omega) with hil | rfl
    · obtain ⟨hok, b, o, rfl, a', c', d0, hL, d1, d2, d3⟩ := HX.out i E[i] (List.getElem?_eq_getElem hil)
      have e0 := (hb.cell (World.block_lt_of_cell? _ _ d0)).trans d0
      have e1 := (hb.cell (World.block_lt_of_cell? _ _ d1)).trans d1
      have e2 := (hb.cell (World.block_lt_of_cell? _ _ d2)).trans d2
      have e3 := (hb.cell (World.block_lt_of_cell? _ _ d3)).trans d3
      have hrx := HRT.out E[i] (List.getElem_mem hil)
      obtain ⟨hl6, hl48⟩ := labs_len hrx
      have hnx := right_nums hrx
      have HSY := Lib.hid (fun y (hy : y ∈ E[i].labels) => HMEM.out _ (List.getElem_mem hil) y hy)
      have HAT : ents2B 2 SY ah (E.drop i) = ent2B 2 SY ah E[i] ++ ents2B 2 SY E[i] (E.drop (i + 1)) := by rw [List.drop_eq_getElem_cons hil, ents2B]
      rw [HAT] at HA
      clear HAT hrx hok d0 d1 d2 d3
      generalize E[i] = x at *
      have HE2 : ent2B 2 SY ah x = Num.small x.labels.length ++ (x.labels.flatMap (lab2B SY) ++ tail2B 2 ah x) := rfl
      rw [HE2] at HA
      generalize hR2 : ents2B 2 SY x (E.drop (i + 1)) = R2 at *
      have HR2 := Lib.hid hR2
      clear HE2 hR2
      have q1 := Lib.hid (fun W => ismall_any (x.labels.length : Int) W)
      have hu : u64N (x.labels.length : Int) = x.labels.length := by unfold u64N; omega
      rw [hu] at q1
      have t1 := (Num.small_len x.labels.length).2
      have HA1 := Lib.hid (show (A ++ Num.small x.labels.length) ++ (((x.labels.drop 0).flatMap (lab2B SY) ++ tail2B 2 ah x) ++ R2) = HEAD by rw [← HA.out]; simp [List.append_assoc])
      generalize Num.small x.labels.length = nl at *
      have q2 := Lib.hid (fun W (hW : MIs W w.heap.size m A SY (.slice sa SY.length sc) D n) => write_k w.heap.size w.heap.size A nl W hW.bld (by omega) (by have := hW.lo.2; omega))
      have bX := one_alloc wr (.cells #[.slice a' x.labels.length c', .int .i64 x.last, .int .i64 x.off, .int .i64 x.len] 59)
      have kX := Blk.new wr 59 #[.slice a' x.labels.length c', .int .i64 x.last, .int .i64 x.off, .int .i64 x.len]
      have MX := M.below bX
      have kHX := kH.below bX kH.lt
      have b1 := hb.trans (bX.mono hb.size)
      have hXH : wr.heap.size ≠ AH := by have := kH.lt; omega
      have hXB : w.heap.size < wr.heap.size := M.lo.2
      clear HA hu M hb bX kH
      obtain ⟨⟨c0, c1, c2, c3⟩, _⟩ := cells4 kX
      go_wp2_with fail
      refine (q1.out _).mono ?_
      rintro e w2 ⟨rfl, hb2⟩
      have M1 := MX.below hb2
      have b2 := b1.trans (hb2.mono b1.size)
      have kX2 := kX.below hb2 kX.lt
      have kH2 := kHX.below hb2 kHX.lt
      clear MX b1 hb2 q1 kX kHX c0 c1 c2 c3
      generalize wr.heap.size = XB at *
      obtain ⟨⟨c0, c1, c2, c3⟩, _⟩ := cells4 kX2
      go_wp2_with fail
      refine (q2.out _ M1).mono ?_
      rintro e w3 ⟨rfl, hB3, hk3⟩
      have M2 := M1.write hB3 hk3
      have b3 := b2.trans hk3.1
      have kX3 := hk3.blk kX2 (by omega) (by decide)
      have kH3 := hk3.blk kH2 (by omega) (by decide)
      clear M1 b2 hB3 hk3 q2 kX2 kH2 c0 c1 c2 c3 hAl
      obtain ⟨⟨c0, c1, c2, c3⟩, _⟩ := cells4 kX3
      go_wp2_with fail
      go_loopw [72] (fun vk wq => ∃ (k : Nat) (A : List UInt8), k ≤ x.labels.length ∧ vk = .int .i64 (k : Int) ∧ MIs wq w.heap.size m A SY (.slice sa SY.length sc) D n ∧ Blk wq AH 59 #[av, .int .i64 ah.last, .int .i64 ah.off, .int .i64 ah.len] ∧ Blk wq XB 59 #[.slice a' x.labels.length c', .int .i64 x.last, .int .i64 x.off, .int .i64 x.len] ∧ Below w.heap.size w wq ∧ Hid (A ++ (((x.labels.drop k).flatMap (lab2B SY) ++ tail2B 2 ah x) ++ R2) = HEAD)) (fun vk _ => x.labels.length - (intOf vk).toNat)
      case atStart => exact ⟨0, _, Nat.zero_le _, rfl, M2, kH3, kX3, b3, HA1⟩
      clear M2 kH3 kX3 b3 HA1 c0 c1 c2 c3
      obtain ⟨k, A, hk, rfl, M, kH, kX, hb, HA⟩ := hrel
      have hAl : A.length ≤ 100000 := by
        have h1 := congrArg List.length HA.out
        rw [List.length_append] at h1
        have := HHL.out
        omega
      rcases (show k < x.labels.length ∨ k = x.labels.length by omega) with hkl | rfl
      · obtain ⟨_, _, eL, _, hLx⟩ := id hL
        obtain ⟨rfl, _, rfl⟩ := Value.slice.inj eL
        obtain ⟨_, _, b3, o3, rfl, g0, g1⟩ := hLx k x.labels[k] (List.getElem?_eq_getElem hkl)
        have x0 := (hb.cell (World.block_lt_of_cell? _ _ g0)).trans g0
        have x1 := (hb.cell (World.block_lt_of_cell? _ _ g1)).trans g1
        have hmem := HSY.out _ (List.getElem_mem hkl)
        have h48 := hl48 _ (List.getElem_mem hkl)
        rw [List.drop_eq_getElem_cons hkl, List.flatMap_cons] at HA
        clear g0 g1 hLx eL
        generalize x.labels[k] = y at *
        have bY := one_alloc wr (.cells #[.string (bs y.1), .string (bs y.2)] 37)
        have kY := Blk.new wr 37 #[.string (bs y.1), .string (bs y.2)]
        have MY := M.below bY
        have z0 := grow_cell ((Blk.cell kY 0).trans (show _ = some (Value.string (bs y.1)) from rfl))
        have z1 := grow_cell ((Blk.cell kY 1).trans (show _ = some (Value.string (bs y.2)) from rfl))
        have HL1 := Lib.hid (MY.look HK.out hmem.1 (by omega))
        have HL2 := Lib.hid (MY.look HK.out hmem.2 (by omega))
        have hp1 := (place_at hmem.1).1
        have hp2 := (place_at hmem.2).1
        have q1 := Lib.hid (fun W => ismall_any ((placeI SY y.1 : Nat) : Int) W)
        have q2 := Lib.hid (fun W => ismall_any ((placeI SY y.2 : Nat) : Int) W)
        have hu1 : u64N ((placeI SY y.1 : Nat) : Int) = placeI SY y.1 := by unfold u64N; omega
        have hu2 : u64N ((placeI SY y.2 : Nat) : Int) = placeI SY y.2 := by unfold u64N; omega
        rw [hu1] at q1
        rw [hu2] at q2
        have t1 := (Num.small_len (placeI SY y.1)).2
        have t2 := (Num.small_len (placeI SY y.2)).2
        have hl2 : lab2B SY y = Num.small (placeI SY y.1) ++ Num.small (placeI SY y.2) := rfl
        rw [hl2] at HA
        generalize Num.small (placeI SY y.1) = y1 at *
        generalize Num.small (placeI SY y.2) = y2 at *
        generalize placeI SY y.1 = p1 at *
        generalize placeI SY y.2 = p2 at *
        have hadd : ∀ W, (Op.stringOp .add (bs y1) (bs y2)).run Tryz.prog W = .ok (.string (bs (y1 ++ y2))) W := fun W => run_add_bs (P := Tryz.prog) y1 y2 (by omega) W
        have HA2 := Lib.hid (show (A ++ (y1 ++ y2)) ++ (((x.labels.drop (k + 1)).flatMap (lab2B SY) ++ tail2B 2 ah x) ++ R2) = HEAD by rw [← HA.out]; simp [List.append_assoc])
        have qw := Lib.hid (fun W (hW : MIs W w.heap.size m A SY (.slice sa SY.length sc) D n) => write_k w.heap.size w.heap.size A (y1 ++ y2) W hW.bld (by rw [List.length_append]; omega) (by have := hW.lo.2; omega))
        have HMY := Lib.hid MY
        have HkH := Lib.hid (kH.below bY kH.lt)
        have HkX := Lib.hid (kX.below bY kX.lt)
        have Hb2 := Lib.hid (hb.trans (bY.mono hb.size))
        clear HA hl2 hu1 hu2 hmem h48 kY MY M kH kX bY hb
        go_wp2_with fail
        refine wp_region_led (R := GrowR) (by kernel_rfl) (by kernel_rfl) rfl (by kernel_rfl) ?_
        (refine lex_one (by kernel_rfl) (by kernel_rfl) (by kernel_rfl) (fun K hK => ?_); go_big_quiet_step (fail); refine wpQuiet_nil (hK _ ?_); clear hK K); (refine lex_one (by kernel_rfl) (by kernel_rfl) (by kernel_rfl) (fun K hK => ?_); go_big_quiet_step (fail); refine wpQuiet_nil (hK _ ?_); clear hK K); (refine lex_one (by kernel_rfl) (by kernel_rfl) (by kernel_rfl) (fun K hK => ?_); go_big_quiet_step (fail); refine wpQuiet_nil (hK _ ?_); clear hK K)
        (refine lex_val (v := .int .i64 (p1 : Int)) (by kernel_rfl) (fun _ _ h => by cases h) (by kernel_rfl) (by kernel_rfl) (fun W hW => by have hl := HL1.out W hW; go_simp) (lex_put (type := 0) (pos := "") (fun K hK => ?_)); go_big_quiet_step (fail); refine wpQuiet_nil (hK _ ?_); clear hK K)
        (refine lex_call (f := 64) (args := #[.int .i64 (p1 : Int)]) (v := .string (bs y1)) (by kernel_rfl) (fun _ _ h => by cases h) (by kernel_rfl) (by kernel_rfl) (fun _ => by go_simp) (fun W hW => q1.out W) (lex_put (type := 0) (pos := "") (fun K hK => ?_)); go_big_quiet_step (fail); refine wpQuiet_nil (hK _ ?_); clear hK K)
        (refine lex_one (by kernel_rfl) (by kernel_rfl) (by kernel_rfl) (fun K hK => ?_); go_big_quiet_step (fail); refine wpQuiet_nil (hK _ ?_); clear hK K); (refine lex_one (by kernel_rfl) (by kernel_rfl) (by kernel_rfl) (fun K hK => ?_); go_big_quiet_step (fail); refine wpQuiet_nil (hK _ ?_); clear hK K); (refine lex_one (by kernel_rfl) (by kernel_rfl) (by kernel_rfl) (fun K hK => ?_); go_big_quiet_step (fail); refine wpQuiet_nil (hK _ ?_); clear hK K)
        (refine lex_val (v := .int .i64 (p2 : Int)) (by kernel_rfl) (fun _ _ h => by cases h) (by kernel_rfl) (by kernel_rfl) (fun W hW => by have hl := HL2.out W hW; go_simp) (lex_put (type := 0) (pos := "") (fun K hK => ?_)); go_big_quiet_step (fail); refine wpQuiet_nil (hK _ ?_); clear hK K)
        (refine lex_call (f := 64) (args := #[.int .i64 (p2 : Int)]) (v := .string (bs y2)) (by kernel_rfl) (fun _ _ h => by cases h) (by kernel_rfl) (by kernel_rfl) (fun _ => by go_simp) (fun W hW => q2.out W) (lex_put (type := 0) (pos := "") (fun K hK => ?_)); go_big_quiet_step (fail); refine wpQuiet_nil (hK _ ?_); clear hK K)
        (refine lex_one (by kernel_rfl) (by kernel_rfl) (by kernel_rfl) (fun K hK => ?_); go_big_quiet_step (fail); refine wpQuiet_nil (hK _ ?_); clear hK K)
        refine lex_nil (by kernel_rfl) (by kernel_rfl) (by kernel_rfl) ?_
        intro w5 hb5
        simp only [hideAll]
        have b5 := Hb2.out.trans (Below.mono hb5 Hb2.out.size)
        have M5 := HMY.out.below hb5
        have kH5 := Blk.below HkH.out hb5 HkH.out.lt
        have kX5 := Blk.below HkX.out hb5 HkX.out.lt
        clear z0 z1 HMY HkH HkX Hb2 HL1 HL2
        go_wp2_with fail
        refine (qw.out _ M5).mono ?_
        rintro e w6 ⟨rfl, hB6, hk6⟩
        have M6 := M5.write hB6 hk6
        go_wp2_with fail
        go_roundw
        case rel => exact ⟨k + 1, _, by omega, by go_num, M6, hk6.blk kH5 (by omega) (by decide), hk6.blk kX5 (by omega) (by decide), b5.trans hk6.1, HA2⟩
        case measure => simp [intOf]; omega
      · rw [List.drop_length, List.flatMap_nil, List.nil_append] at HA
        obtain ⟨n1, n2, n3, n4, n5, n6⟩ := hnx
        obtain ⟨h1, h2, h3, h4, h5, h6⟩ := hah
        obtain ⟨⟨c0, c1, c2, c3⟩, _⟩ := cells4 kX
        obtain ⟨⟨d0, d1, d2, d3⟩, f0, f1, f2, f3⟩ := cells4 kH
        have g1 := grow_cell c1
        have g2 := grow_cell c2
        have g3 := grow_cell c3
        have q1 := Lib.hid (fun W => num_Small_any (u64N x.last : Int) W (by omega) (by have := u64N_lt x.last; omega))
        rw [Int.toNat_natCast] at q1
        have q2 := Lib.hid (fun W => ismall_any x.off W)
        have q3 := Lib.hid (fun W => ismall_any x.len W)
        have hu1 := u64N_wrap x.last
        have ht2 : tail2B 2 ah x = (Num.small (u64N x.last) ++ Num.small (u64N x.off)) ++ Num.small (u64N x.len) := rfl
        rw [ht2] at HA
        have t1 := (Num.small_len (u64N x.last)).2
        have t2 := (Num.small_len (u64N x.off)).2
        have t3 := (Num.small_len (u64N x.len)).2
        generalize Num.small (u64N x.last) = y1 at *
        generalize Num.small (u64N x.off) = y2 at *
        generalize Num.small (u64N x.len) = y3 at *
        generalize u64N x.last = p1 at *
        have hadd1 : ∀ W, (Op.stringOp .add (bs y1) (bs y2)).run Tryz.prog W = .ok (.string (bs (y1 ++ y2))) W := fun W => run_add_bs (P := Tryz.prog) y1 y2 (by omega) W
        have hadd2 : ∀ W, (Op.stringOp .add (bs (y1 ++ y2)) (bs y3)).run Tryz.prog W = .ok (.string (bs (y1 ++ y2 ++ y3))) W := fun W => run_add_bs (P := Tryz.prog) (y1 ++ y2) y3 (by rw [List.length_append]; omega) W
        have HA2 := Lib.hid (show (A ++ (y1 ++ y2 ++ y3)) ++ ents2B 2 SY x (E.drop (i + 1)) = HEAD by rw [HR2.out, ← HA.out]; simp [List.append_assoc])
        have qw := Lib.hid (fun W (hW : MIs W w.heap.size m A SY (.slice sa SY.length sc) D n) => write_k w.heap.size w.heap.size A (y1 ++ y2 ++ y3) W hW.bld (by rw [List.length_append, List.length_append]; omega) (by have := hW.lo.2; omega))
        generalize y1 ++ y2 ++ y3 = z3 at *
        generalize y1 ++ y2 = z2 at *
        have HMY := Lib.hid M
        have HkH := Lib.hid kH
        have HkX := Lib.hid kX
        have Hb2 := Lib.hid hb
        clear HA ht2 M kH kX hb c0 c1 c2 c3 d0 d1 d2 d3 f0 f1 f2 f3
        go_wp2_with fail
        refine wp_region_led (R := GrowR) (by kernel_rfl) (by kernel_rfl) rfl (by kernel_rfl) ?_
        (refine lex_one (by kernel_rfl) (by kernel_rfl) (by kernel_rfl) (fun K hK => ?_); go_big_quiet_step (fail); refine wpQuiet_nil (hK _ ?_); clear hK K); (refine lex_one (by kernel_rfl) (by kernel_rfl) (by kernel_rfl) (fun K hK => ?_); go_big_quiet_step (fail); refine wpQuiet_nil (hK _ ?_); clear hK K); (refine lex_one (by kernel_rfl) (by kernel_rfl) (by kernel_rfl) (fun K hK => ?_); go_big_quiet_step (fail); refine wpQuiet_nil (hK _ ?_); clear hK K)
        (refine lex_call (f := 67) (args := #[.int .u64 (p1 : Int)]) (v := .string (bs y1)) (by kernel_rfl) (fun _ _ h => by cases h) (by kernel_rfl) (by kernel_rfl) (fun _ => by go_simp) (fun W hW => q1.out W) (lex_put (type := 0) (pos := "") (fun K hK => ?_)); go_big_quiet_step (fail); refine wpQuiet_nil (hK _ ?_); clear hK K)
        (refine lex_one (by kernel_rfl) (by kernel_rfl) (by kernel_rfl) (fun K hK => ?_); go_big_quiet_step (fail); refine wpQuiet_nil (hK _ ?_); clear hK K); (refine lex_one (by kernel_rfl) (by kernel_rfl) (by kernel_rfl) (fun K hK => ?_); go_big_quiet_step (fail); refine wpQuiet_nil (hK _ ?_); clear hK K)
        (refine lex_call (f := 64) (args := #[.int .i64 x.off]) (v := .string (bs y2)) (by kernel_rfl) (fun _ _ h => by cases h) (by kernel_rfl) (by kernel_rfl) (fun _ => by go_simp) (fun W hW => q2.out W) (lex_put (type := 0) (pos := "") (fun K hK => ?_)); go_big_quiet_step (fail); refine wpQuiet_nil (hK _ ?_); clear hK K)
        (refine lex_one (by kernel_rfl) (by kernel_rfl) (by kernel_rfl) (fun K hK => ?_); go_big_quiet_step (fail); refine wpQuiet_nil (hK _ ?_); clear hK K); (refine lex_one (by kernel_rfl) (by kernel_rfl) (by kernel_rfl) (fun K hK => ?_); go_big_quiet_step (fail); refine wpQuiet_nil (hK _ ?_); clear hK K); (refine lex_one (by kernel_rfl) (by kernel_rfl) (by kernel_rfl) (fun K hK => ?_); go_big_quiet_step (fail); refine wpQuiet_nil (hK _ ?_); clear hK K)
        (refine lex_call (f := 64) (args := #[.int .i64 x.len]) (v := .string (bs y3)) (by kernel_rfl) (fun _ _ h => by cases h) (by kernel_rfl) (by kernel_rfl) (fun _ => by go_simp) (fun W hW => q3.out W) (lex_put (type := 0) (pos := "") (fun K hK => ?_)); go_big_quiet_step (fail); refine wpQuiet_nil (hK _ ?_); clear hK K)
        (refine lex_one (by kernel_rfl) (by kernel_rfl) (by kernel_rfl) (fun K hK => ?_); go_big_quiet_step (fail); refine wpQuiet_nil (hK _ ?_); clear hK K)
        refine lex_nil (by kernel_rfl) (by kernel_rfl) (by kernel_rfl) ?_
        intro w5 hb5
        simp only [hideAll]
        have b5 := Hb2.out.trans (Below.mono hb5 Hb2.out.size)
        have M5 := HMY.out.below hb5
        have kH5 := Blk.below HkH.out hb5 HkH.out.lt
        have kX5 := Blk.below HkX.out hb5 HkX.out.lt
        clear g1 g2 g3 HMY HkH HkX Hb2
        go_wp2_with fail
        refine (qw.out _ M5).mono ?_
        rintro e w6 ⟨rfl, hB6, hk6⟩
        have M6 := M5.write hB6 hk6
        have kH6 := hk6.blk kH5 (by omega) (by decide)
        have kX6 := hk6.blk kX5 (by omega) (by decide)
        have b6 := b5.trans hk6.1
        obtain ⟨⟨c0, c1, c2, c3⟩, _⟩ := cells4 kX6
        obtain ⟨⟨d0, d1, d2, d3⟩, f0, f1, f2, f3⟩ := cells4 kH6
        obtain ⟨kH7, K7⟩ := set4 kH6 (.slice a' x.labels.length c') (.int .i64 x.last) (.int .i64 x.off) (.int .i64 x.len)
        have HkH7 := Lib.hid kH7
        have HK7 := Lib.hid K7
        have HM6 := Lib.hid M6
        have HtH := Lib.hid (tag_blk kH6)
        clear M5 kH5 kX5 b5 hB6 hk6 qw kH7 K7 M6 kH6 kX6
        go_wp2_with fail
        go_roundw
        case rel =>
          have ht := HtH.out
          have hM6 := HM6.out
          refine ⟨i + 1, _, x, _, by omega, by go_num, ⟨bld_kept hM6.bld HK7.out (by omega) (fun g e => by subst e; rw [ht]; simp), ownsRow_kept hM6.row HK7.out (fun b e e2 => ?_), ownsMap_kept hM6.map HK7.out (fun e => ?_), hM6.lo.1, Nat.lt_of_lt_of_le hM6.lo.2 HK7.out.size⟩, HkH7.out, ⟨n1, n2, n3, n4, n5, n6⟩, b6.trans (HK7.out.below b6.size fun k e => by omega), HA2⟩
          · subst e2
            rw [tag_row hM6.row e] at ht
            simp at ht
          · have h1 := tag_map hM6.map
            rw [e, ht] at h1
            simp at h1
        case measure => simp [intOf]; omega
    · rw [List.drop_length, show ents2B 2 SY ah [] = [] from rfl, List.append_nil] at HA
      obtain rfl := HA.out
      have Q := Lib.hid (builderString_any _ _ _ _ M.bld hb.size)
      go_wp2_with fail
      refine Q.out.mono ?_
      rintro e w3 ⟨rfl, hB3, hb3⟩
      go_wp2_with fail
      go_ret
      exact ⟨by rw [HMO.out]; rfl, hb.trans hb3⟩
end Go.Proofs.YtpeahjocimhneaaGreatDoor
namespace Go.Proofs.YtpeahjocimhneaaGreatDoor
open Go.RowKit Go.Maps Go.WideMaps Go.Shelf
attribute [local go_sem] bs_toList bs_size
attribute [local go_sem] Oper.semAt_some

/-- What a round leaves as it lay: all below n₀; below n1 all but a builder, and rows of bytes. -/
def KB (n₀ n1 b : Nat) (W W' : World) : Prop := Below n₀ W W' ∧ ∀ k o, k < n1 → W.heap[k]? = some o → k ≠ b → (∀ c fz, o ≠ .cells c 5 fz) → W'.heap[k]? = some o
theorem KB.t {n₀ n1 b : Nat} {A B C : World} (h : KB n₀ n1 b A B) (k : KB n₀ n1 b B C) : KB n₀ n1 b A C := ⟨h.1.trans k.1, fun i o hi ho hb ht => k.2 i o hi (h.2 i o hi ho hb ht) hb ht⟩
theorem KB.b {n₀ b : Nat} {w : World} (hn : n₀ ≤ w.heap.size) (W : World) (l : Nat) (o o' : Obj) (hl : w.heap.size ≤ l) (h : W.heap[l]? = some o) (h1 : o.isCells = false) (h2 : o.isWalk = false) : KB n₀ w.heap.size b W (W.putObj l o') :=
  ⟨belowK_b hn W l o o' hl h h1 h2, fun k x hk hx _ _ => by rw [World.putObj_heap_other (by omega)]; exact hx⟩
theorem KB.refl (n₀ n1 b : Nat) (W : World) : KB n₀ n1 b W W := ⟨Below.refl _ _, fun _ _ _ h _ _ => h⟩
theorem KB.of_below {n₀ n1 b : Nat} {W W' : World} (h : Below W.heap.size W W') (hn : n₀ ≤ W.heap.size) : KB n₀ n1 b W W' := ⟨h.mono hn, fun k _ _ ho _ _ => (h.block k (Array.getElem?_eq_some_iff.1 ho).1).trans ho⟩
theorem KB.blk {n₀ n1 b g : Nat} {t : TypeId} {cs : Array Value} {W W' : World} (h : KB n₀ n1 b W W') (hk : Blk W g t cs) (hg : g < n1) (hb : g ≠ b) (ht : t ≠ 5) : Blk W' g t cs := h.2 g _ hg hk hb (fun c fz e => ht (by cases e; rfl))
theorem KB.row {n₀ n1 b base : Nat} {e : TypeId} {size n : Nat} {v : Value} {xs : List Value} {W W' : World} (h : KB n₀ n1 b W W') (hr : W.ownsRow base e size v n xs) (hv : ∀ g, v.ownBlock = some g → g < n1 ∧ g ≠ b) (ht : e ≠ 5) : W'.ownsRow base e size v n xs := by
  refine ⟨hr.1, ?_⟩
  rcases hr.2 with h2 | ⟨g, cap, cur, rfl, h3, h4, h5⟩
  · exact .inl h2
  · exact .inr ⟨g, cap, cur, rfl, h3, h.2 g _ (hv g rfl).1 h4 (hv g rfl).2 (fun c fz e2 => ht (by cases e2; rfl)), h5⟩
theorem KB.groups {n₀ n1 b base m n : Nat} {P : Program} {k e : TypeId} {q : IntKind} {D : DataW Unit} {W W' : World} (h : KB n₀ n1 b W W') (hg : W.ownsGroups P k base e q m n D) (hm : m < n1 ∧ m ≠ b) (hbb : b < base) (hn1 : W.heap.size ≤ n1 ∨ ∀ g t, tag W g = some (some t) → t = e → g < n1) (ht : e ≠ 5) : W'.ownsGroups P k base e q m n D := by
  obtain ⟨es, clock, hb, F, hs, rfl, hbb2, hlen, hap⟩ := hg
  have hrow : ∀ {v : Value} {zs : List Int}, W.ownsInts base e q v zs → ∀ g, v.ownBlock = some g → g < n1 ∧ g ≠ b := fun {v zs} ho g hg => by
    refine ⟨?_, fun e2 => by have := (ho.1.lt g hg).1; omega⟩
    rcases hn1 with h1 | h1
    · exact Nat.lt_of_lt_of_le (ho.1.lt g hg).2 h1
    · exact h1 g e (tag_row ho.1 hg) rfl
  have keep : ∀ {v : Value} {zs : List Int}, W.ownsInts base e q v zs → W'.ownsInts base e q v zs := fun {v zs} ho => ⟨h.row ho.1 (hrow ho) ht, ho.2⟩
  have hst : ∀ x ∈ es.toList, ∀ z, rowElem (H := Unit) W base e q x.val = some z → rowElem W' base e q x.val = some z := fun x _ z hz => by
    obtain ⟨zs, ho, rfl⟩ := rowElem_inv hz
    exact rowElem_mk (keep ho)
  obtain ⟨F1, hmap, _⟩ := F.stay hst
  refine ⟨es, clock, h.2 m _ hm.1 hb hm.2 (fun c fz e2 => by cases e2), F1, hs, by rw [hmap], hbb2, fun x hx zs ho => ?_, hap⟩
  obtain ⟨y, hy⟩ := F.reads x hx
  obtain ⟨z, hz, _⟩ := WideElems.rd_val hy
  obtain ⟨zs0, ho0, _⟩ := rowElem_inv hz
  rw [ho.unique (keep ho0)]
  exact hlen x hx zs0 ho0
/-- A label, and the slice of who has it. -/
abbrev LbV (w : World) (B : Nat) (S : List (Lb × Nat)) : Type := { p : Lb × Value // okLb p.1 ∧ w.ownsInts (B + 1) 3 .i64 p.2 (intsN (valOf S p.1)) }
theorem look_same {P : Program} {k t e : TypeId} {R : Value → Option (DataW Unit × List MemPlace)} {w w' : World} {b : Nat} {es : Array MapEntry} {clock : Nat} {z v key : Value} {kl : Lit} (K : KeyLaw P k) (ht : P.underlying t = some (.map k e)) (hz : ∀ u : World, (zeroValue e).run P u = .ok z u) (hb : w.heap[b]? = some (.map es clock)) (F : WideElems.Fit P k R es clock) (hkey : keyOf P k key = some kl)
    (h : (Instr.lookup t (.map (some b)) key false).run P w = .ok v w) (hb' : w'.heap[b]? = some (.map es clock)) : (Instr.lookup t (.map (some b)) key false).run P w' = .ok v w' := by
  rcases Maps.fit_look false (Keyed.of_law K) ht (hz w) hb F hkey with ⟨h1, h2, _⟩ | ⟨e0, y, m0, k0, h1, _, _, _⟩
  · rw [h] at h1
    have hv : v = z := by simpa using h1
    rcases Maps.fit_look false (Keyed.of_law K) ht (hz w') hb' F hkey with ⟨g1, _, _⟩ | ⟨e1, y1, m1, k1, g1, _, _, _⟩
    · rw [g1, hv]
      rfl
    · exact absurd k1 (h2 e1 m1)
  · rw [h] at h1
    have hv : v = e0.val := by simpa using h1
    rcases Maps.fit_look false (Keyed.of_law K) ht (hz w') hb' F hkey with ⟨g1, g2, _⟩ | ⟨e1, y1, m1, k1, g1, _, _, _⟩
    · exact absurd k0 (g2 e0 m0)
    · obtain ⟨i, hi⟩ := List.getElem?_of_mem m0
      obtain ⟨j, hj⟩ := List.getElem?_of_mem m1
      rw [g1, hv, (entry_uniq F hi hj (k0.trans k1.symm)).2]
      rfl
theorem flat_at {L : List Lb} {k : Nat} (h : k < L.length) : (L.flatMap encLb)[k * 2]? = some (.string (bs L[k].1)) ∧ (L.flatMap encLb)[k * 2 + 1]? = some (.string (bs L[k].2)) := by
  have h1 := flat_get L (k * 2) (by omega)
  have h2 := flat_get L (k * 2 + 1) (by omega)
  rw [show k * 2 / 2 = k by omega, show k * 2 % 2 = 0 by omega, List.getD_eq_getElem?_getD, List.getElem?_eq_getElem h] at h1
  rw [show (k * 2 + 1) / 2 = k by omega, show (k * 2 + 1) % 2 = 1 by omega, List.getD_eq_getElem?_getD, List.getElem?_eq_getElem h] at h2
  exact ⟨h1, h2⟩
set_option maxRecDepth 100000 in
set_option maxHeartbeats 4000000 in
theorem post2_stops (n : Nat) (hn : 1 ≤ n) (b B n₀ : Nat) (S : List (Lb × Nat)) (L : List Lb) (kv : Value) (D : DataW Unit) (w : World) (hp : PIs w B S L kv D) (hbB : b < B) (hn₀ : n₀ ≤ w.heap.size) (hok : ∀ y ∈ L, okLb y) (hL : L.length ≤ 1000000) (hS : S.length < maxLen) :
    ∃ XS : List (LbV w B S), XS.map (fun p => p.1.1) = L ∧ SeqStopsK Fence.wide n Tryz.prog 105 #[.pointer (some ⟨B + 2, 0, none⟩), .pointer (some ⟨B + 1, 0, none⟩)] (fun p : LbV w B S => #[.agg #[.string (bs p.1.1.1), .string (bs p.1.1.2)], p.1.2]) (KB n₀ w.heap.size b) (fun ys => ys = XS) (fun _ => True) XS.length w := by
  have hex : ∀ y ∈ L, ∃ v, w.ownsInts (B + 1) 3 .i64 v (intsN (valOf S y)) ∧ ∀ W, KB n₀ w.heap.size b w W → (Instr.lookup 133 (.map (some B)) (.agg #[.string (bs y.1), .string (bs y.2)]) false).run Tryz.prog W = .ok v W := by
    intro y hy
    obtain ⟨v, zs, hlook, hat, hoi, hzl, _⟩ := hp.grp.at (Keyed.of_law lbLaw) Tryz.underlying133 (Tryz.zeroValue43 _) hS (lb_key y (hok y hy))
    have hzs := datum_of hoi (hat.symm.trans (hp.dict y (hok y hy)))
    subst hzs
    obtain ⟨es, clock, hb, F, _⟩ := hp.grp
    have hBl : B < w.heap.size := (Array.getElem?_eq_some_iff.1 hb).1
    exact ⟨v, hoi, fun W hW => look_same lbLaw Tryz.underlying133 (fun u => Tryz.zeroValue43 u) hb F (lb_key y (hok y hy)) hlook (hW.2 B _ hBl hb (by omega) (fun c fz e => by cases e))⟩
  obtain ⟨f, hf⟩ : ∃ f : (y : Lb) → y ∈ L → Value, ∀ y hy, w.ownsInts (B + 1) 3 .i64 (f y hy) (intsN (valOf S y)) ∧ ∀ W, KB n₀ w.heap.size b w W → (Instr.lookup 133 (.map (some B)) (.agg #[.string (bs y.1), .string (bs y.2)]) false).run Tryz.prog W = .ok (f y hy) W := ⟨fun y hy => Classical.choose (hex y hy), fun y hy => Classical.choose_spec (hex y hy)⟩
  clear hex
  refine ⟨L.attach.map fun y => ⟨(y.1, f y.1 y.2), hok y.1 y.2, (hf y.1 y.2).1⟩, by rw [List.map_map]; exact List.attach_map_subtype_val L, ?_⟩
  have HXL : ∀ k (hk : k < L.length), (L.attach.map fun y => (⟨(y.1, f y.1 y.2), hok y.1 y.2, (hf y.1 y.2).1⟩ : LbV w B S))[k]? = some ⟨(L[k], f L[k] (List.getElem_mem hk)), hok _ (List.getElem_mem hk), (hf _ (List.getElem_mem hk)).1⟩ := fun k hk => by
    rw [List.getElem?_map, List.getElem?_attach]
    simp [hk]
  have HLK := Lib.hid (fun k (hk : k < L.length) => (hf L[k] (List.getElem_mem hk)).2)
  have hXlen : (L.attach.map fun y => (⟨(y.1, f y.1 y.2), hok y.1 y.2, (hf y.1 y.2).1⟩ : LbV w B S)).length = L.length := by simp
  have HXV := Lib.hid (fun k (hk : k < L.length) => (hf L[k] (List.getElem_mem hk)).1)
  have HXS := Lib.hid HXL
  clear HXL
  generalize (L.attach.map fun y => (⟨(y.1, f y.1 y.2), hok y.1 y.2, (hf y.1 y.2).1⟩ : LbV w B S)) = XS at *
  intro l J Jx W hW hJ hJx hY h0
  have HJ := Lib.hid hJ
  have HY := Lib.hid hY
  clear hJ hJx hY
  have HP := Lib.hid hp
  have hkb0 : KB n₀ w.heap.size b w W := (KB.of_below hW hn₀)
  obtain ⟨ka, kc, rfl⟩ := row_form hp.row
  have cK := (hW.cell (World.block_lt_of_cell? _ _ ((Blk.cell hp.boxK 0).trans (show _ = some (Value.slice ka L.length kc) from rfl)))).trans ((Blk.cell hp.boxK 0).trans (show _ = some (Value.slice ka L.length kc) from rfl))
  have hlen : XS.length = L.length := hXlen
  have h00 : J (XS.take 0) W := h0
  clear hp hXlen h0
  refine callsIn_of_wp Tryz.func105 rfl trivial ?_ rfl
  simp only [Tryz.ntmps105, List.size_toArray, List.length_cons, List.length_nil, Nat.reduceAdd, Nat.reduceSub, Array.replicate_succ, Array.replicate_zero, List.push_toArray, List.append_toArray, List.nil_append, List.cons_append]
  gi_wp2
  gi_loopw [8] (fun vi wr => ∃ k : Nat, k ≤ L.length ∧ vi = .int .i64 (k : Int) ∧ J (XS.take k) wr ∧ KB n₀ w.heap.size b w wr) (fun vi _ => L.length - (intOf vi).toNat)
  case atStart => exact ⟨0, Nat.zero_le _, rfl, h00, hkb0⟩
  case round =>
    clear h00 hkb0 hW cK
    obtain ⟨k, hk, rfl, hJs, hkb⟩ := hrel
    by_cases hlt : k < L.length
    · obtain ⟨g, rfl⟩ : ∃ g, ka = some ⟨g, 0, none⟩ := by
        rcases HP.out.row.2 with ⟨_, e⟩ | ⟨g, cap, cur, e, _⟩
        · omega
        · exact ⟨g, (Value.slice.inj e).1⟩
      have hgb := (HP.out.row.lt g rfl)
      have hrow := hkb.row HP.out.row (fun g' hg' => by obtain rfl := Option.some.inj hg'; exact ⟨hgb.2, by have h1 : B ≤ g := hgb.1; show g ≠ b; omega⟩) (by decide)
      have hcl : ∀ j u, (L.flatMap encLb)[j]? = some u → wr.cell? ((⟨g, 0, none⟩ : Addr).add j) = some u := hrow.cells (g := g) rfl
      have y0 := hcl (k * 2) (.string (bs L[k].1)) (flat_at hlt).1
      have y1 := hcl (k * 2 + 1) (.string (bs L[k].2)) (flat_at hlt).2
      rw [add_at] at y0 y1
      have hx := HXS.out k hlt
      have hlk := HLK.out k hlt
      have HJ2 := Lib.hid (fun W2 (hg : wr.grownBy W2 none) => HJ.out _ _ _ none hJs hg (fun r e => by cases e))
      have bA := one_alloc wr (.cells #[.string (bs L[k].1), .string (bs L[k].2)] 37)
      have hnr : n₀ ≤ wr.heap.size := Nat.le_trans hn₀ hkb.1.size
      have hkb2 := hkb.t (KB.of_below (n1 := w.heap.size) (b := b) bA hnr)
      have hkb3 : KB n₀ w.heap.size b w (wr.alloc (.cells #[.string (bs L[k].1), .string (bs L[k].2)] 37)).drew := ⟨hkb2.1.drew, hkb2.2⟩
      have hll := hlk _ hkb3
      have cA := (Blk.cell (hkb2.blk HP.out.boxA HP.out.boxA.lt (by omega) (by decide)) 0).trans (show _ = some (Value.map (some B)) from rfl)
      have hgr := World.grownBy_alloc wr (.cells #[.string (bs L[k].1), .string (bs L[k].2)] 37) none
      have hj2 := HJ2.out (wr.alloc (.cells #[.string (bs L[k].1), .string (bs L[k].2)] 37)).drew ⟨hgr.os, hgr.tape, hgr.output, hgr.size, hgr.block⟩
      obtain ⟨fn, tmps, assign, body, hy, hR⟩ := HY.out _ ⟨(L[k], f L[k] (List.getElem_mem hlt)), hok _ (List.getElem_mem hlt), (hf _ (List.getElem_mem hlt)).1⟩ _ hj2 (by rw [List.length_take]; omega)
      dsimp only at hy
      gi_wp2
      have hR2 := hR.mono (fun e W' h => (show ∃ bb : Bool, e = .returned (.bool bb) ∧ Hid ((bb = true ∧ J _ W' ∧ KB n₀ w.heap.size b _ W') ∨ (bb = false ∧ Jx _ W')) from h.elim (fun h => ⟨true, h.1, Lib.hid (.inl ⟨rfl, h.2⟩)⟩) (fun h => ⟨false, h.1, Lib.hid (.inr ⟨rfl, h.2⟩)⟩)))
      clear hR hj2
      gi_region_with (refine hR2.mono ?_; rintro e w3 ⟨bb, rfl, hh⟩)
      all_goals
        cases bb with
        | true =>
          obtain ⟨_, hJ3, hk3⟩ := hh.out.resolve_right (fun h => by cases h.1)
          have HKB := Lib.hid (hkb3.t hk3)
          have HX := Lib.hid hx
          have HJ3 := Lib.hid hJ3
          clear hR2 hy hJ3 hkb3 hk3 hll hkb2 hkb hJs hx hlk hh
          gi_wp2
          go_roundw
          case rel =>
            refine ⟨k + 1, by omega, by go_num, ?_, HKB.out⟩
            rw [List.take_add_one, HX.out]
            exact HJ3.out
          case measure => simp [intOf]; omega
        | false =>
          obtain ⟨_, hJx3⟩ := hh.out.resolve_left (fun h => by cases h.1)
          clear hR2 hy hh
          gi_wp2
          refine bodyPost_ret (results_none rfl _ _ _) rfl ?_
          exact ⟨⟨_, rfl⟩, .inr ⟨_, hJx3⟩⟩
    · obtain rfl : k = L.length := by omega
      rw [← hlen, List.take_length] at hJs
      gi_wp2
      go_end0
      exact ⟨⟨_, rfl⟩, .inl ⟨_, rfl, hJs⟩⟩
end Go.Proofs.YtpeahjocimhneaaGreatDoor
namespace Go.Proofs.YtpeahjocimhneaaGreatDoor
open Go.RowKit Go.Maps Go.WideMaps Go.Shelf
attribute [local go_sem] bs_toList bs_size
attribute [local go_sem] Oper.semAt_some

def chunkP (S : List (Lb × Nat)) (y : Lb) : List UInt8 := Num.small (valOf S y).length ++ dltN 0 (valOf S y)
theorem pairs_len (E : List En) (h : ∀ x ∈ E, x.labels.length ≤ 6) : (pairsI E).length ≤ E.length * 6 := by
  have : ∀ i, i ≤ E.length → (prI E i).length ≤ i * 6 := fun i => by
    induction i with
    | zero => exact fun _ => Nat.le_refl _
    | succ i ih =>
      intro hi
      rw [pr_succ E (by omega), List.length_append, List.length_map]
      have h1 := ih (by omega)
      have h2 := h E[i] (List.getElem_mem (by omega))
      omega
  exact this E.length (Nat.le_refl _)
theorem keys_len (E : List En) : (keysOf E).length ≤ (pairsI E).length := by
  unfold keysOf
  rw [sortLb_len]
  have := dist_len ((pairsI E).map fun p => p.1)
  rwa [List.length_map] at this
theorem keys_ok {w : World} {v : Value} {E : List En} (h : EntsAt w v E) : ∀ y ∈ keysOf E, okLb y := fun y hy => by
  unfold keysOf sortLb at hy
  rw [List.mem_mergeSort, dist_mem, List.mem_map] at hy
  obtain ⟨p, hp, rfl⟩ := hy
  unfold pairsI at hp
  rw [List.mem_flatMap] at hp
  obtain ⟨i, hi, hp⟩ := hp
  rw [List.mem_map] at hp
  obtain ⟨y, hy, rfl⟩ := hp
  have hil := List.mem_range.1 hi
  obtain ⟨a, c, rfl, _, _, _, hx⟩ := h
  obtain ⟨_, b, o, _, a', c', _, hL, _⟩ := hx i _ (List.getElem?_eq_getElem hil)
  rw [show E.getD i zeroEn = E[i] by rw [List.getD_eq_getElem?_getD, List.getElem?_eq_getElem hil]; rfl] at hy
  obtain ⟨j, hj, rfl⟩ := List.mem_iff_getElem.1 hy
  obtain ⟨_, _, _, _, hLx⟩ := hL
  obtain ⟨h1, h2, _⟩ := hLx j _ (List.getElem?_eq_getElem hj)
  exact ⟨h1, h2⟩
theorem pr_snd (E : List En) : ∀ i, i ≤ E.length → ((prI E i).map fun p => p.2).Pairwise (· ≤ ·) ∧ ∀ k ∈ (prI E i).map (fun p => p.2), k < i := fun i => by
  induction i with
  | zero => exact fun _ => ⟨List.Pairwise.nil, fun k hk => by simp [prI] at hk⟩
  | succ i ih =>
    intro hi
    obtain ⟨h1, h2⟩ := ih (by omega)
    rw [pr_succ E (by omega), List.map_append, List.map_map]
    have hc : ∀ k ∈ (E[i].labels.map ((fun p : Lb × Nat => p.2) ∘ fun z => (z, i))), k = i := fun k hk => by
      obtain ⟨z, _, rfl⟩ := List.mem_map.1 hk
      rfl
    refine ⟨List.pairwise_append.2 ⟨h1, ?_, fun a ha b hb => ?_⟩, fun k hk => ?_⟩
    · rw [List.pairwise_map]
      exact List.pairwise_iff_getElem.2 (fun _ _ _ _ _ => Nat.le_refl _)
    · have := h2 a ha
      have := hc b hb
      omega
    · rcases List.mem_append.1 hk with hk | hk
      · have := h2 k hk
        omega
      · have := hc k hk
        omega
theorem post_sorted (E : List En) (y : Lb) : (valOf (pairsI E) y).Pairwise (· ≤ ·) ∧ ∀ k ∈ valOf (pairsI E) y, k < E.length := by
  obtain ⟨h1, h2⟩ := pr_snd E E.length (Nat.le_refl _)
  have hs : (valOf (pairsI E) y).Sublist ((prI E E.length).map fun p => p.2) := by
    unfold valOf
    rw [pairs_pr]
    exact (List.filter_sublist).map _
  exact ⟨h1.sublist hs, fun k hk => h2 k (hs.subset hk)⟩
/-- What is held over a loop: it abides what the loop's own book does. -/
theorem ownFrom_bld {β : Type} (B n1 : Nat) (hB : B < n1) (_hn : B ≤ n1) (f : β → List UInt8) (_T : World → Prop) (w w2 : World) (hBw : B ≤ w.heap.size) : OwnFrom n1 (fun s W => BldAt B B (f s) W ∧ Below B w W ∧ KB B n1 B w2 W) := by
  rintro s X Y row ⟨h1, h2, h3⟩ hg hr
  have hk : Kept X Y (fun k => row = some k) := Kept.of_grown hg fun k e => e
  refine ⟨bld_kept h1 hk (fun e => by have := (hr B e).1; omega) (fun g e => ?_), h2.grown hg (Nat.le_trans hBw h2.size) (fun k e => by have := (hr k e).1; omega), h3.1.grown hg ?_ (fun k e => by have := (hr k e).1; omega), fun k o hk2 ho hb ht => ?_⟩
  · obtain ⟨_, o, ho, hc⟩ := hr g e
    unfold tag
    rw [ho]
    cases o <;> simp_all [Obj.isCells, tagOf]
  · exact Nat.le_trans hBw h2.size
  · have h4 := h3.2 k o hk2 ho hb ht
    rw [hg.block k (Array.getElem?_eq_some_iff.1 h4).1 (fun e => by have := (hr k e.symm).1; omega)]
    exact h4
/-- A range over a function of two, the second alone used. -/
theorem range_pair {F : Fence} {n : Nat} {P : Program} {α : Type} (d : Tmp) {g : Operand} {ps : Array Tmp} {assign body : Code} {Q : Exit → Act → World → Prop} {a : Act} {w : World}
    (hro : F.round = none) (h1 : 1 ≤ n) {gf : Nat} {lb : Array Value} (hg : a.eval g = .func (.func gf) #[] lb) (hFg : F.fn gf) (eg : ∀ args w, (callFunc gf args).run P w = .ok (.enter gf args) w)
    {encs : α → Array Value} {Kp : World → World → Prop} {S Sp : List α → Prop} {N : Nat} {w0 : World} (hseq : SeqStopsK F (n - 1) P gf lb encs Kp S Sp N w0)
    (hKt : ∀ {A B C : World}, Kp A B → Kp B C → Kp A C) (hKb : ∀ (W : World) (l : Nat) (o o' : Obj), w.heap.size ≤ l → W.heap[l]? = some o → o.isCells = false → o.isWalk = false → Kp W (W.putObj l o')) (hb0 : Below w0.heap.size w0 w) (hps : ∀ x, (encs x).size = ps.size)
    (I : List α → World → Prop) (Ix : Code → List α → World → Prop) (hI : OwnFrom w.heap.size I) (hIx : ∀ c, OwnFrom w.heap.size (Ix c)) (h0 : I [] w)
    (hassign : ∀ (l : Nat) (x : α) (W : World) (K : Act → World → Prop), K { tmps := ((ps.zip (encs x)).foldl (fun t (p, v) => t.setIfInBounds p v) a.tmps).setIfInBounds d ((encs x).getD 1 undef), defers := [] } W →
      assign.wpIn (F.inRound l) (n - 1 - 1) P (Exit.then K (fun _ _ _ => False)) { tmps := (ps.zip (encs x)).foldl (fun t (p, v) => t.setIfInBounds p v) a.tmps, defers := [] } W)
    (hbody : ∀ (l : Nat) (pre : List α) (x : α) (W : World), I pre W → pre.length < N → body.wpIn (F.inRound l) (n - 1 - 1) P (ownPostG w.heap.size Kp I Ix (pre ++ [x]) W) { tmps := ((ps.zip (encs x)).foldl (fun t (p, v) => t.setIfInBounds p v) a.tmps).setIfInBounds d ((encs x).getD 1 undef), defers := [] } W)
    (hdone : ∀ (D : Nat) (xs : List α) (W : World), w.heap.size ≤ D → S xs → I xs W → W.heap[D]? = some (.deferred (some [])) → Q .normal { a with defers := { target := .collected D, args := #[] } :: a.defers } W)
    (hstop : ∀ (D : Nat) (c : Code) (pre : List α) (W : World), w.heap.size ≤ D → Sp pre → Ix c pre W → W.heap[D]? = some (.deferred (some [])) → c.wpIn F n P Q { a with defers := { target := .collected D, args := #[] } :: a.defers } W) :
    (Code.rangeFunc g ps assign body).wpIn F n P Q a w :=
  wpIn_rangeFunc_ownG hro h1 hg hFg eg hseq (fun h k => hKt h k) hKb hb0 hps I Ix hI hIx h0 (fun x => { tmps := ((ps.zip (encs x)).foldl (fun t (p, v) => t.setIfInBounds p v) a.tmps).setIfInBounds d ((encs x).getD 1 undef), defers := [] }) hassign hbody hdone hstop
end Go.Proofs.YtpeahjocimhneaaGreatDoor
