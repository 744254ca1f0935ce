/- Entries of generation 3 as bytes: the walk. Put: the walk. -/
import Derived.Test.YtpeahjocimhneaaGreatDoorGH
import Derived.RangeFuncCalls
import Derived.Shelf.Strings.BuilderK
namespace Go.Proofs.YtpeahjocimhneaaGreatDoor
open Go.RowKit Go.Maps Go.WideMaps
attribute [local go_sem] bs_toList bs_size

attribute [local go_sem] Oper.semAt_some
theorem KB.of {n₀ n1 b : Nat} {X Y : World} (h : BK n₀ b X Y) : KB n₀ n1 b X Y := ⟨h.1, fun k o _ ho hb ht => h.2 k o ho (fun e => hb (Option.some.inj e)) ht⟩
theorem BK.from' {B b n : Nat} {X Y : World} (h : BK B b X Y) (hb : b < n) : KeepsFrom n X Y := ⟨h.1.size, fun k o hk ho hc => h.2 k o ho (fun e => by have := Option.some.inj e; omega) (fun c fz e => by subst e; cases hc)⟩
theorem range_pair2 {F : Fence} {n : Nat} {P : Program} {α : Type} (d p0 p1 : Tmp) {g : Operand} {assign body : Code} {Q : Exit → Act → World → Prop} {a : Act} {w : World}
    (hro : F.round = none) (h1 : 1 ≤ n) {gf : Nat} {lb : Array Value} (hg : a.eval g = .func (.func gf) #[] lb) (hFg : F.fn gf) (eg : ∀ args w, (callFunc gf args).run P w = .ok (.enter gf args) w)
    {e0 e1 : α → Value} {Kp : World → World → Prop} {S Sp : List α → Prop} {N : Nat} {w0 : World} (hseq : SeqStopsK F (n - 1) P gf lb (fun x => #[e0 x, e1 x]) Kp S Sp N w0)
    (hKt : ∀ {A B C : World}, Kp A B → Kp B C → Kp A C) (hKb : ∀ (W : World) (l : Nat) (o o' : Obj), w.heap.size ≤ l → W.heap[l]? = some o → o.isCells = false → o.isWalk = false → Kp W (W.putObj l o')) (hb0 : Below w0.heap.size w0 w)
    (I : List α → World → Prop) (Ix : Code → List α → World → Prop) (hI : OwnFrom w.heap.size I) (hIx : ∀ c, OwnFrom w.heap.size (Ix c)) (h0 : I [] w)
    (hassign : ∀ (l : Nat) (x : α) (W : World) (K : Act → World → Prop), K { tmps := ((a.tmps.setIfInBounds p0 (e0 x)).setIfInBounds p1 (e1 x)).setIfInBounds d (e1 x), defers := [] } W →
      assign.wpIn (F.inRound l) (n - 1 - 1) P (Exit.then K (fun _ _ _ => False)) { tmps := (a.tmps.setIfInBounds p0 (e0 x)).setIfInBounds p1 (e1 x), defers := [] } W)
    (hbody : ∀ (l : Nat) (pre : List α) (x : α) (W : World), I pre W → pre.length < N → body.wpIn (F.inRound l) (n - 1 - 1) P (ownPostG w.heap.size Kp I Ix (pre ++ [x]) W) { tmps := ((a.tmps.setIfInBounds p0 (e0 x)).setIfInBounds p1 (e1 x)).setIfInBounds d (e1 x), defers := [] } W)
    (hdone : ∀ (D : Nat) (xs : List α) (W : World), w.heap.size ≤ D → S xs → I xs W → W.heap[D]? = some (.deferred (some [])) → Q .normal { a with defers := { target := .collected D, args := #[] } :: a.defers } W)
    (hstop : ∀ (D : Nat) (c : Code) (pre : List α) (W : World), w.heap.size ≤ D → Sp pre → Ix c pre W → W.heap[D]? = some (.deferred (some [])) → c.wpIn F n P Q { a with defers := { target := .collected D, args := #[] } :: a.defers } W) :
    (Code.rangeFunc g #[p0, p1] assign body).wpIn F n P Q a w := by
  have hz : ∀ x, ((#[p0, p1].zip #[e0 x, e1 x]).foldl (fun t (p, v) => t.setIfInBounds p v) a.tmps) = (a.tmps.setIfInBounds p0 (e0 x)).setIfInBounds p1 (e1 x) := fun x => by simp
  have hd : ∀ x, (#[e0 x, e1 x] : Array Value).getD 1 undef = e1 x := fun x => rfl
  refine range_pair d hro h1 hg hFg eg hseq (fun h k => hKt h k) hKb hb0 (fun _ => rfl) I Ix hI hIx h0 ?_ ?_ hdone hstop
  · intro l x W K hK
    rw [hz, hd] at hK
    rw [hz]
    exact hassign l x W K hK
  · intro l pre x W h1 h2
    rw [hz, hd]
    exact hbody l pre x W h1 h2
theorem builderString_k (B b : Nat) (l : List UInt8) (w : World) (h : BldAt B b l w) (hBw : B ≤ w.heap.size) :
    Calls Tryz.prog 63 #[.pointer (some ⟨b, 0, none⟩)] w fun e w' => e = .returned (.string (bs l)) ∧ BldAt B b l w' ∧ BK B b w w' := Any.Builder_String_any_k Tryz.lays169 Tryz.Builder_Extra_169 B b l w h hBw
theorem dlt_len : ∀ (l : List Nat) (a : Nat), (dltN a l).length ≤ 10 * l.length
  | [], _ => Nat.zero_le _
  | b :: l, a => by
    have h1 := dlt_len l b
    have h2 := (Num.small_len (b - a)).2
    rw [dltN, List.length_append, List.length_cons]
    omega
theorem val_len (S : List (Lb × Nat)) (y : Lb) : (valOf S y).length ≤ S.length := by
  unfold valOf
  rw [List.length_map]
  exact List.length_filter_le _ _
theorem chunk_len (S : List (Lb × Nat)) (y : Lb) : (chunkP S y).length ≤ 10 + 10 * S.length := by
  have h1 := dlt_len (valOf S y) 0
  have h2 := (Num.small_len (valOf S y).length).2
  have h3 := val_len S y
  unfold chunkP
  rw [List.length_append]
  omega
theorem flat_le {α β : Type} (f : α → List β) (c : Nat) : ∀ (l : List α), (∀ x ∈ l, (f x).length ≤ c) → (l.flatMap f).length ≤ l.length * c
  | [], _ => Nat.zero_le _
  | x :: l, h => by
    have h1 := flat_le f c l (fun y hy => h y (List.mem_cons_of_mem _ hy))
    have h2 := h x List.mem_cons_self
    rw [List.flatMap_cons, List.length_append, List.length_cons, Nat.add_mul]
    omega

set_option maxRecDepth 100000 in
set_option maxHeartbeats 8000000 in
theorem more3_any (E : List En) (v : Value) (w : World) (h : EntsAt w v E) (hr : ∀ x ∈ E, rightB x = true) (hE : E.length ≤ 20) :
    Calls Tryz.prog 31 #[v, .int .i64 3] w fun e w' => e = .returned (.string (bs (moreI E 3))) ∧ Below w.heap.size w w' := by
  have hmm := @run_makeMap Tryz.prog
  have h6 : ∀ x ∈ E, x.labels.length ≤ 6 := fun x hx => (labs_len (hr x hx)).1
  have hT : (textsOf E).length ≤ 1048576 := by have := texts_len E h6; omega
  have hSl := sym_len h6 hE
  have HSb := Lib.hid (show ∀ s ∈ symI E, s.length ≤ 48 from fun s hs => texts_short hr s ((mem_symI E s).1 hs))
  have HHL := Lib.hid (head_len 3 E hr hE)
  have HND := Lib.hid (symI_nodup E)
  have HMEM := Lib.hid (fun x (hx : x ∈ E) y (hy : y ∈ x.labels) => (show y.1 ∈ symI E ∧ y.2 ∈ symI E from ⟨(mem_symI E _).2 (texts_mem hx hy).1, (mem_symI E _).2 (texts_mem hx hy).2⟩))
  have HRT := Lib.hid hr
  have HH := Lib.hid (show headI E 3 = Num.small (symI E).length ++ (tabB 3 [] (symI E) ++ (Num.small E.length ++ ents2B 3 (symI E) zeroEn E)) from rfl)
  have HMO := Lib.hid (show moreI E 3 = headI E 3 ++ postB E from rfl)
  have B0 := BldAt.fresh w
  have b0 := one_alloc w (.cells #[.pointer none, .slice none 0 0] 97)
  have qs := Lib.hid (ISymbols_any E v _ (h.below b0) hT)
  rw [World.size_alloc] at qs
  have H := Lib.hid h
  obtain ⟨a, c, rfl, hnil, hl, hlc, hx⟩ := h
  have HX := Lib.hid hx
  clear hx h6 hT hr
  generalize symI E = SY at *
  generalize hHD : headI E 3 = HEAD at *
  clear hHD

  refine (callsIn_wide (n := 8)).1 (callsIn_of_wp_marks (n := 8) Tryz.func31 rfl trivial (wpIn_wide.2 ?_) rfl)
  simp only [Tryz.ntmps31, List.size_toArray, List.length_cons, List.length_nil, Nat.reduceAdd, Nat.reduceSub, Array.replicate_succ, Array.replicate_zero, List.push_toArray, List.append_toArray, List.nil_append, List.cons_append]
  go_wp2_with fail
  refine qs.out.mono ?_
  rintro e w1 ⟨sv, rfl, hrow, hb1⟩
  have BA := b0.trans (hb1.mono (by simp))
  have BB := B0.below (hb1.mono (by simp))
  have hw1 : w.heap.size + 1 ≤ w1.heap.size := by have := hb1.size; rwa [World.size_alloc] at this
  have m0 : (w1.alloc (.map #[] 0)).ownsMap Tryz.prog 9 intR w1.heap.size 0 (.map []) := World.ownsMap_made w1 Tryz.prog 9 intR
  have M0 : MIs (w1.alloc (.map #[] 0)) w.heap.size w1.heap.size [] SY sv (.map []) 0 := ⟨BB.below (one_alloc _ _), World.ownsRow.alloc hrow _, m0, by omega, by simp; omega⟩
  have BM := BA.trans ((one_alloc w1 (.map #[] 0)).mono BA.size)
  generalize hm : w1.heap.size = m at *
  obtain ⟨sa, sc, rfl⟩ := row_form hrow
  have q1 := Lib.hid (fun W => ismall_any (SY.length : Int) W)
  have hu : u64N (SY.length : Int) = SY.length := by unfold u64N; omega
  rw [hu] at q1
  have t1 := (Num.small_len SY.length).2
  have q2 := Lib.hid (fun W (hW : MIs W w.heap.size m [] SY (.slice sa SY.length sc) (.map []) 0) => write_k w.heap.size w.heap.size [] (Num.small SY.length) W hW.bld (by simp; omega) (by have := hW.lo.2; omega))
  generalize hn1 : Num.small SY.length = n1 at *
  clear qs hrow hb1 b0 B0 BA BB m0 hu hn1
  go_wp2_with fail
  refine (q1.out _).mono ?_
  rintro e w2 ⟨rfl, hb2⟩
  have M1 := M0.below hb2
  have B1 := BM.trans (hb2.mono BM.size)
  clear M0 BM hb2 q1
  go_wp2_with fail
  refine (q2.out _ M1).mono ?_
  rintro e w3 ⟨rfl, hB3, hk3⟩
  have M2 := M1.write hB3 hk3
  have B2 := B1.trans hk3.1
  have HA0 := Lib.hid (show ([] ++ n1) ++ (tabB 3 [] (SY.drop 0) ++ (Num.small E.length ++ ents2B 3 SY zeroEn E)) = HEAD by rw [HH.out, List.nil_append]; rfl)
  generalize ([] ++ n1 : List UInt8) = A0 at *
  clear q2 M1 B1 hB3 hk3 hm hw1 HH
  go_wp2_with fail
  go_loopw [31, 8] (fun vi vl wr => ∃ (i n : Nat) (last A : List UInt8) (D : DataW Unit), i ≤ SY.length ∧ vi = .int .i64 (i : Int) ∧ vl = .string (bs last) ∧ last.length ≤ 48 ∧ n ≤ i ∧ MIs wr w.heap.size m A SY (.slice sa SY.length sc) D n ∧ Hid (KeyMap D (SY.take i)) ∧ Below w.heap.size w wr ∧ Hid (A ++ (tabB 3 last (SY.drop i) ++ (Num.small E.length ++ ents2B 3 SY zeroEn E)) = HEAD)) (fun vi _ _ => SY.length - (intOf vi).toNat)
  case atStart => exact ⟨0, 0, [], A0, _, Nat.zero_le _, rfl, rfl, Nat.zero_le _, Nat.le_refl _, M2, Lib.hid keyMap_nil, B2, HA0⟩
  clear M2 B2 HA0
  obtain ⟨i, n, last, A, D, hi, rfl, rfl, hll, hni, M, HK, hb, HA⟩ := hrel
  have hAl : A.length ≤ 100000 := by
    have h1 := congrArg List.length HA.out
    rw [List.length_append] at h1
    have := HHL.out
    omega
  rcases (show i < SY.length ∨ i = SY.length by omega) with hil | rfl
  · obtain ⟨g, gc, e1, hc⟩ := M.sym hil
    obtain ⟨rfl, _, rfl⟩ := Value.slice.inj e1
    have hs48 := HSb.out SY[i] (List.getElem_mem hil)
    have HK2 := Lib.hid (keyMap_new M.map.isMap HK.out (l := SY[i]) (fun hm => by
      obtain ⟨j, hj, e⟩ := List.mem_iff_getElem.1 hm
      rw [List.getElem_take] at e
      have hj' : j < i := by rw [List.length_take] at hj; omega
      exact (List.pairwise_iff_getElem.1 (show SY.Pairwise (fun a b => a ≠ b) from HND.out) j i (by omega) hil hj') e))
    rw [← List.take_succ_eq_append_getElem hil, List.length_take, Nat.min_eq_left (show i ≤ SY.length by omega)] at HK2
    have hkey : keyOf Tryz.prog 9 (.string (bs SY[i])) = some (.string SY[i]) := keyOf_string_mk Tryz.underlying9 (by rw [bs_size]; unfold maxLen; omega)
    have HMP := Lib.hid M.map
    have HAT : tabB 3 last (SY.drop i) = (if (3 : Int) = 3 then Num.small (common last SY[i]) ++ Num.text (SY[i].drop (common last SY[i])) else Num.text SY[i]) ++ tabB 3 SY[i] (SY.drop (i + 1)) := by rw [List.drop_eq_getElem_cons hil, tabB]
    rw [HAT] at HA
    clear HAT e1 HK
    generalize SY[i] = s at *
    have HM := Lib.hid (fun W5 (hown : W5.ownsMap Tryz.prog 9 intR m (n + 1) (D.put (.string s) (.lit (.int .i64 (i : Nat))))) (hg : wr.grownBy W5 (some m)) => M.put hown hg)
    have HB := Lib.hid (fun W5 (hg : wr.grownBy W5 (some m)) => hb.grown hg hb.size (fun k e => by have := Option.some.inj e; have := M.lo.1; omega))

    rw [if_pos rfl] at HA
    obtain ⟨cl1, cl2, _⟩ := common_le last s
    have qc := Lib.hid (fun W => common_any last s W (by omega))
    have qn := Lib.hid (fun W => ismall_any ((common last s : Nat) : Int) W)
    have hu : u64N ((common last s : Nat) : Int) = common last s := by unfold u64N; omega
    rw [hu] at qn
    have hx0 : (bs s).extract (common last s) s.length = bs (s.drop (common last s)) := by rw [bs_extract, List.take_of_length_le (by simp)]
    have q1 := Lib.hid (fun W => num_Text_any (s.drop (common last s)) W (by rw [List.length_drop]; omega))
    have t1 : (Num.text (s.drop (common last s))).length ≤ 100 := by rw [Num.text_len, List.length_drop]; have := (Num.small_len (s.length - common last s)).2; omega
    have t2 := (Num.small_len (common last s)).2
    have HA2 := Lib.hid (show ((A ++ Num.small (common last s)) ++ Num.text (s.drop (common last s))) ++ (tabB 3 s (SY.drop (i + 1)) ++ (Num.small E.length ++ ents2B 3 SY zeroEn E)) = HEAD by rw [← HA.out]; simp [List.append_assoc])
    generalize Num.text (s.drop (common last s)) = ts at *
    generalize Num.small (common last s) = tn at *
    generalize hsd : s.drop (common last s) = sd at *
    generalize common last s = cm at *
    have hz := bs_size s
    have qA := Lib.hid (fun W D n (hW : MIs W w.heap.size m A SY (.slice (some ⟨g, 0, none⟩) SY.length sc) D n) => write_k w.heap.size w.heap.size A tn W hW.bld (by omega) (by have := hW.lo.2; omega))
    have q2 := Lib.hid (fun W D n (hW : MIs W w.heap.size m (A ++ tn) SY (.slice (some ⟨g, 0, none⟩) SY.length sc) D n) => write_k w.heap.size w.heap.size (A ++ tn) ts W hW.bld (by rw [List.length_append]; omega) (by have := hW.lo.2; omega))
    clear HA M hb hsd
    go_wp2_with (at_mapUpdate; refine wpList_mapUpdate_own _ rfl _ _ _ 107 rfl 9 3 (string_keyed Tryz.underlying9) Tryz.underlying107 intR m n D rfl HMP.out (by unfold maxLen; omega) _ _ _ rfl rfl hkey (.lit (.int .i64 (i : Int))) [] rfl ?_; intro w5 hown5 hgrow5; have M5 := HM.out w5 hown5 hgrow5; have b5 := HB.out w5 hgrow5; clear hown5 hgrow5 HM HB HMP)
    refine (qc.out _).mono ?_
    rintro e w6 ⟨rfl, hb6⟩
    have M6 := M5.below hb6
    have b6 := b5.trans (hb6.mono b5.size)
    clear M5 b5 hb6
    go_wp2_with fail
    refine (qn.out _).mono ?_
    rintro e w7 ⟨rfl, hb7⟩
    have M7 := M6.below hb7
    have b7 := b6.trans (hb7.mono b6.size)
    clear M6 b6 hb7
    go_wp2_with fail
    refine (qA.out _ _ _ M7).mono ?_
    rintro e w8 ⟨rfl, hB8, hk8⟩
    have M8 := M7.write hB8 hk8
    have b8 := b7.trans hk8.1
    clear M7 b7 hB8 hk8
    go_wp2_with fail
    refine (q1.out _).mono ?_
    rintro e w9 ⟨rfl, hb9⟩
    have M9 := M8.below hb9
    have b9 := b8.trans (hb9.mono b8.size)
    clear M8 b8 hb9
    go_wp2_with fail
    refine (q2.out _ _ _ M9).mono ?_
    rintro e w7 ⟨rfl, hB7, hk7⟩
    have M7 := M9.write hB7 hk7
    have b7 := b9.trans hk7.1
    clear M9 b9 hB7 hk7
    go_wp2_with fail
    go_roundw
    case rel => exact ⟨i + 1, n + 1, s, (A ++ tn) ++ ts, _, by omega, by go_num, rfl, hs48, by omega, M7, HK2, b7, HA2⟩
    case measure => simp [intOf]; omega
  · rw [List.drop_length, show tabB 3 last [] = [] from rfl, List.nil_append] at HA
    rw [List.take_length] at HK
    have q1 := Lib.hid (fun W => ismall_any (E.length : Int) W)
    have hu : u64N (E.length : Int) = E.length := by unfold u64N; omega
    rw [hu] at q1
    have t1 := (Num.small_len E.length).2
    have HA1 := Lib.hid (show (A ++ Num.small E.length) ++ ents2B 3 SY zeroEn (E.drop 0) = HEAD by rw [← HA.out]; simp [List.append_assoc])
    generalize Num.small E.length = ne at *
    have q2 := Lib.hid (fun W (hW : MIs W w.heap.size m A SY (.slice sa SY.length sc) D n) => write_k w.heap.size w.heap.size A ne W hW.bld (by omega) (by have := hW.lo.2; omega))
    clear HA hu
    go_wp2_with fail
    refine (q1.out _).mono ?_
    rintro e w2 ⟨rfl, hb2⟩
    have M1 := M.below hb2
    have b1 := hb.trans (hb2.mono hb.size)
    clear M hb hb2 q1
    go_wp2_with fail
    refine (q2.out _ M1).mono ?_
    rintro e w3 ⟨rfl, hB3, hk3⟩
    have M2 := (M1.write hB3 hk3).below (one_alloc w3 (.cells #[.slice none 0 0, .int .i64 0, .int .i64 0, .int .i64 0] 59))
    have b2 := b1.trans hk3.1
    have b3 := b2.alloc b2.size (.cells #[.slice none 0 0, .int .i64 0, .int .i64 0, .int .i64 0] 59)
    have kH := Blk.new w3 59 #[.slice none 0 0, .int .i64 0, .int .i64 0, .int .i64 0]
    have hwH : w.heap.size < w3.heap.size := (M1.write hB3 hk3).lo.2
    clear M1 b1 hB3 hk3 q2 b2
    generalize hH : w3.heap.size = AH at *
    go_wp2_with fail
    go_loopw [60] (fun vi wr => ∃ (i : Nat) (A : List UInt8) (ah : En) (av : Value), i ≤ E.length ∧ vi = .int .i64 (i : Int) ∧ MIs wr w.heap.size m A SY (.slice sa SY.length sc) D n ∧ Blk wr AH 59 #[av, .int .i64 ah.last, .int .i64 ah.off, .int .i64 ah.len] ∧ numsOk ah ∧ Below w.heap.size w wr ∧ Hid (A ++ ents2B 3 SY ah (E.drop i) = HEAD)) (fun vi _ => E.length - (intOf vi).toNat)
    case atStart => exact ⟨0, _, zeroEn, _, Nat.zero_le _, rfl, M2, kH, ⟨by simp [zeroEn], by simp [zeroEn], by simp [zeroEn], by simp [zeroEn], by simp [zeroEn], by simp [zeroEn]⟩, b3, HA1⟩
    clear M2 kH b3 HA1 hH hAl
    obtain ⟨i, A, ah, av, hi, rfl, M, kH, hah, hb, HA⟩ := hrel
    have hAl : A.length ≤ 100000 := by
      have h1 := congrArg List.length HA.out
      rw [List.length_append] at h1
      have := HHL.out
      omega
    rcases (show i < E.length ∨ i = E.length by omega) with hil | rfl
    · obtain ⟨hok, b, o, rfl, a', c', d0, hL, d1, d2, d3⟩ := HX.out i E[i] (List.getElem?_eq_getElem hil)
      have e0 := (hb.cell (World.block_lt_of_cell? _ _ d0)).trans d0
      have e1 := (hb.cell (World.block_lt_of_cell? _ _ d1)).trans d1
      have e2 := (hb.cell (World.block_lt_of_cell? _ _ d2)).trans d2
      have e3 := (hb.cell (World.block_lt_of_cell? _ _ d3)).trans d3
      have hrx := HRT.out E[i] (List.getElem_mem hil)
      obtain ⟨hl6, hl48⟩ := labs_len hrx
      have hnx := right_nums hrx
      have HSY := Lib.hid (fun y (hy : y ∈ E[i].labels) => HMEM.out _ (List.getElem_mem hil) y hy)
      have HAT : ents2B 3 SY ah (E.drop i) = ent2B 3 SY ah E[i] ++ ents2B 3 SY E[i] (E.drop (i + 1)) := by rw [List.drop_eq_getElem_cons hil, ents2B]
      rw [HAT] at HA
      clear HAT hrx hok d0 d1 d2 d3
      generalize E[i] = x at *
      have HE2 : ent2B 3 SY ah x = Num.small x.labels.length ++ (x.labels.flatMap (lab2B SY) ++ tail2B 3 ah x) := rfl
      rw [HE2] at HA
      generalize hR2 : ents2B 3 SY x (E.drop (i + 1)) = R2 at *
      have HR2 := Lib.hid hR2
      clear HE2 hR2
      have q1 := Lib.hid (fun W => ismall_any (x.labels.length : Int) W)
      have hu : u64N (x.labels.length : Int) = x.labels.length := by unfold u64N; omega
      rw [hu] at q1
      have t1 := (Num.small_len x.labels.length).2
      have HA1 := Lib.hid (show (A ++ Num.small x.labels.length) ++ (((x.labels.drop 0).flatMap (lab2B SY) ++ tail2B 3 ah x) ++ R2) = HEAD by rw [← HA.out]; simp [List.append_assoc])
      generalize Num.small x.labels.length = nl at *
      have q2 := Lib.hid (fun W (hW : MIs W w.heap.size m A SY (.slice sa SY.length sc) D n) => write_k w.heap.size w.heap.size A nl W hW.bld (by omega) (by have := hW.lo.2; omega))
      have bX := one_alloc wr (.cells #[.slice a' x.labels.length c', .int .i64 x.last, .int .i64 x.off, .int .i64 x.len] 59)
      have kX := Blk.new wr 59 #[.slice a' x.labels.length c', .int .i64 x.last, .int .i64 x.off, .int .i64 x.len]
      have MX := M.below bX
      have kHX := kH.below bX kH.lt
      have b1 := hb.trans (bX.mono hb.size)
      have hXH : wr.heap.size ≠ AH := by have := kH.lt; omega
      have hXB : w.heap.size < wr.heap.size := M.lo.2
      clear HA hu M hb bX kH
      obtain ⟨⟨c0, c1, c2, c3⟩, _⟩ := cells4 kX
      go_wp2_with fail
      refine (q1.out _).mono ?_
      rintro e w2 ⟨rfl, hb2⟩
      have M1 := MX.below hb2
      have b2 := b1.trans (hb2.mono b1.size)
      have kX2 := kX.below hb2 kX.lt
      have kH2 := kHX.below hb2 kHX.lt
      clear MX b1 hb2 q1 kX kHX c0 c1 c2 c3
      generalize wr.heap.size = XB at *
      obtain ⟨⟨c0, c1, c2, c3⟩, _⟩ := cells4 kX2
      go_wp2_with fail
      refine (q2.out _ M1).mono ?_
      rintro e w3 ⟨rfl, hB3, hk3⟩
      have M2 := M1.write hB3 hk3
      have b3 := b2.trans hk3.1
      have kX3 := hk3.blk kX2 (by omega) (by decide)
      have kH3 := hk3.blk kH2 (by omega) (by decide)
      clear M1 b2 hB3 hk3 q2 kX2 kH2 c0 c1 c2 c3 hAl
      obtain ⟨⟨c0, c1, c2, c3⟩, _⟩ := cells4 kX3
      go_wp2_with fail
      go_loopw [72] (fun vk wq => ∃ (k : Nat) (A : List UInt8), k ≤ x.labels.length ∧ vk = .int .i64 (k : Int) ∧ MIs wq w.heap.size m A SY (.slice sa SY.length sc) D n ∧ Blk wq AH 59 #[av, .int .i64 ah.last, .int .i64 ah.off, .int .i64 ah.len] ∧ Blk wq XB 59 #[.slice a' x.labels.length c', .int .i64 x.last, .int .i64 x.off, .int .i64 x.len] ∧ Below w.heap.size w wq ∧ Hid (A ++ (((x.labels.drop k).flatMap (lab2B SY) ++ tail2B 3 ah x) ++ R2) = HEAD)) (fun vk _ => x.labels.length - (intOf vk).toNat)
      case atStart => exact ⟨0, _, Nat.zero_le _, rfl, M2, kH3, kX3, b3, HA1⟩
      clear M2 kH3 kX3 b3 HA1 c0 c1 c2 c3
      obtain ⟨k, A, hk, rfl, M, kH, kX, hb, HA⟩ := hrel
      have hAl : A.length ≤ 100000 := by
        have h1 := congrArg List.length HA.out
        rw [List.length_append] at h1
        have := HHL.out
        omega
      rcases (show k < x.labels.length ∨ k = x.labels.length by omega) with hkl | rfl
      · obtain ⟨_, _, eL, _, hLx⟩ := id hL
        obtain ⟨rfl, _, rfl⟩ := Value.slice.inj eL
        obtain ⟨_, _, b3, o3, rfl, g0, g1⟩ := hLx k x.labels[k] (List.getElem?_eq_getElem hkl)
        have x0 := (hb.cell (World.block_lt_of_cell? _ _ g0)).trans g0
        have x1 := (hb.cell (World.block_lt_of_cell? _ _ g1)).trans g1
        have hmem := HSY.out _ (List.getElem_mem hkl)
        have h48 := hl48 _ (List.getElem_mem hkl)
        rw [List.drop_eq_getElem_cons hkl, List.flatMap_cons] at HA
        clear g0 g1 hLx eL
        generalize x.labels[k] = y at *
        have bY := one_alloc wr (.cells #[.string (bs y.1), .string (bs y.2)] 37)
        have kY := Blk.new wr 37 #[.string (bs y.1), .string (bs y.2)]
        have MY := M.below bY
        have z0 := grow_cell ((Blk.cell kY 0).trans (show _ = some (Value.string (bs y.1)) from rfl))
        have z1 := grow_cell ((Blk.cell kY 1).trans (show _ = some (Value.string (bs y.2)) from rfl))
        have HL1 := Lib.hid (MY.look HK.out hmem.1 (by omega))
        have HL2 := Lib.hid (MY.look HK.out hmem.2 (by omega))
        have hp1 := (place_at hmem.1).1
        have hp2 := (place_at hmem.2).1
        have q1 := Lib.hid (fun W => ismall_any ((placeI SY y.1 : Nat) : Int) W)
        have q2 := Lib.hid (fun W => ismall_any ((placeI SY y.2 : Nat) : Int) W)
        have hu1 : u64N ((placeI SY y.1 : Nat) : Int) = placeI SY y.1 := by unfold u64N; omega
        have hu2 : u64N ((placeI SY y.2 : Nat) : Int) = placeI SY y.2 := by unfold u64N; omega
        rw [hu1] at q1
        rw [hu2] at q2
        have t1 := (Num.small_len (placeI SY y.1)).2
        have t2 := (Num.small_len (placeI SY y.2)).2
        have hl2 : lab2B SY y = Num.small (placeI SY y.1) ++ Num.small (placeI SY y.2) := rfl
        rw [hl2] at HA
        generalize Num.small (placeI SY y.1) = y1 at *
        generalize Num.small (placeI SY y.2) = y2 at *
        generalize placeI SY y.1 = p1 at *
        generalize placeI SY y.2 = p2 at *
        have hadd : ∀ W, (Op.stringOp .add (bs y1) (bs y2)).run Tryz.prog W = .ok (.string (bs (y1 ++ y2))) W := fun W => run_add_bs (P := Tryz.prog) y1 y2 (by omega) W
        have HA2 := Lib.hid (show (A ++ (y1 ++ y2)) ++ (((x.labels.drop (k + 1)).flatMap (lab2B SY) ++ tail2B 3 ah x) ++ R2) = HEAD by rw [← HA.out]; simp [List.append_assoc])
        have qw := Lib.hid (fun W (hW : MIs W w.heap.size m A SY (.slice sa SY.length sc) D n) => write_k w.heap.size w.heap.size A (y1 ++ y2) W hW.bld (by rw [List.length_append]; omega) (by have := hW.lo.2; omega))
        have HMY := Lib.hid MY
        have HkH := Lib.hid (kH.below bY kH.lt)
        have HkX := Lib.hid (kX.below bY kX.lt)
        have Hb2 := Lib.hid (hb.trans (bY.mono hb.size))
        clear HA hl2 hu1 hu2 hmem h48 kY MY M kH kX bY hb
        go_wp2_with fail
        refine wp_region_led (R := GrowR) (by kernel_rfl) (by kernel_rfl) rfl (by kernel_rfl) ?_
        (refine lex_one (by kernel_rfl) (by kernel_rfl) (by kernel_rfl) (fun K hK => ?_); go_big_quiet_step (fail); refine wpQuiet_nil (hK _ ?_); clear hK K); (refine lex_one (by kernel_rfl) (by kernel_rfl) (by kernel_rfl) (fun K hK => ?_); go_big_quiet_step (fail); refine wpQuiet_nil (hK _ ?_); clear hK K); (refine lex_one (by kernel_rfl) (by kernel_rfl) (by kernel_rfl) (fun K hK => ?_); go_big_quiet_step (fail); refine wpQuiet_nil (hK _ ?_); clear hK K)
        (refine lex_val (v := .int .i64 (p1 : Int)) (by kernel_rfl) (fun _ _ h => by cases h) (by kernel_rfl) (by kernel_rfl) (fun W hW => by have hl := HL1.out W hW; go_simp) (lex_put (type := 0) (pos := "") (fun K hK => ?_)); go_big_quiet_step (fail); refine wpQuiet_nil (hK _ ?_); clear hK K)
        (refine lex_call (f := 64) (args := #[.int .i64 (p1 : Int)]) (v := .string (bs y1)) (by kernel_rfl) (fun _ _ h => by cases h) (by kernel_rfl) (by kernel_rfl) (fun _ => by go_simp) (fun W hW => q1.out W) (lex_put (type := 0) (pos := "") (fun K hK => ?_)); go_big_quiet_step (fail); refine wpQuiet_nil (hK _ ?_); clear hK K)
        (refine lex_one (by kernel_rfl) (by kernel_rfl) (by kernel_rfl) (fun K hK => ?_); go_big_quiet_step (fail); refine wpQuiet_nil (hK _ ?_); clear hK K); (refine lex_one (by kernel_rfl) (by kernel_rfl) (by kernel_rfl) (fun K hK => ?_); go_big_quiet_step (fail); refine wpQuiet_nil (hK _ ?_); clear hK K); (refine lex_one (by kernel_rfl) (by kernel_rfl) (by kernel_rfl) (fun K hK => ?_); go_big_quiet_step (fail); refine wpQuiet_nil (hK _ ?_); clear hK K)
        (refine lex_val (v := .int .i64 (p2 : Int)) (by kernel_rfl) (fun _ _ h => by cases h) (by kernel_rfl) (by kernel_rfl) (fun W hW => by have hl := HL2.out W hW; go_simp) (lex_put (type := 0) (pos := "") (fun K hK => ?_)); go_big_quiet_step (fail); refine wpQuiet_nil (hK _ ?_); clear hK K)
        (refine lex_call (f := 64) (args := #[.int .i64 (p2 : Int)]) (v := .string (bs y2)) (by kernel_rfl) (fun _ _ h => by cases h) (by kernel_rfl) (by kernel_rfl) (fun _ => by go_simp) (fun W hW => q2.out W) (lex_put (type := 0) (pos := "") (fun K hK => ?_)); go_big_quiet_step (fail); refine wpQuiet_nil (hK _ ?_); clear hK K)
        (refine lex_one (by kernel_rfl) (by kernel_rfl) (by kernel_rfl) (fun K hK => ?_); go_big_quiet_step (fail); refine wpQuiet_nil (hK _ ?_); clear hK K)
        refine lex_nil (by kernel_rfl) (by kernel_rfl) (by kernel_rfl) ?_
        intro w5 hb5
        simp only [hideAll]
        have b5 := Hb2.out.trans (Below.mono hb5 Hb2.out.size)
        have M5 := HMY.out.below hb5
        have kH5 := Blk.below HkH.out hb5 HkH.out.lt
        have kX5 := Blk.below HkX.out hb5 HkX.out.lt
        clear z0 z1 HMY HkH HkX Hb2 HL1 HL2
        go_wp2_with fail
        refine (qw.out _ M5).mono ?_
        rintro e w6 ⟨rfl, hB6, hk6⟩
        have M6 := M5.write hB6 hk6
        go_wp2_with fail
        go_roundw
        case rel => exact ⟨k + 1, _, by omega, by go_num, M6, hk6.blk kH5 (by omega) (by decide), hk6.blk kX5 (by omega) (by decide), b5.trans hk6.1, HA2⟩
        case measure => simp [intOf]; omega
      · rw [List.drop_length, List.flatMap_nil, List.nil_append] at HA
        obtain ⟨n1, n2, n3, n4, n5, n6⟩ := hnx
        obtain ⟨h1, h2, h3, h4, h5, h6⟩ := hah
        obtain ⟨⟨c0, c1, c2, c3⟩, _⟩ := cells4 kX
        obtain ⟨⟨d0, d1, d2, d3⟩, f0, f1, f2, f3⟩ := cells4 kH
        have g1 := grow_cell c1
        have g2 := grow_cell c2
        have g3 := grow_cell c3
        have j1 := grow_cell d1
        have j2 := grow_cell d2
        have j3 := grow_cell d3
        have z1 := Num.zig_bd (x.last - ah.last) (by omega) (by omega)
        have z2 := Num.zig_bd (x.off - ah.off - ah.len) (by omega) (by omega)
        have qz1 := Lib.hid (fun W => (num_Zig_any (x.last - ah.last) W (by omega) (by omega)).mono fun e w' (h : e = .returned (.int .u64 (Num.zigI (x.last - ah.last))) ∧ W = w') => (⟨h.1, h.2 ▸ Below.refl _ _⟩ : e = .returned (.int .u64 (Num.zigI (x.last - ah.last))) ∧ GrowR W w'))
        have qz2 := Lib.hid (fun W => (num_Zig_any (x.off - ah.off - ah.len) W (by omega) (by omega)).mono fun e w' (h : e = .returned (.int .u64 (Num.zigI (x.off - ah.off - ah.len))) ∧ W = w') => (⟨h.1, h.2 ▸ Below.refl _ _⟩ : e = .returned (.int .u64 (Num.zigI (x.off - ah.off - ah.len))) ∧ GrowR W w'))
        have q1 := Lib.hid (fun W => num_Small_any (Num.zigI (x.last - ah.last)) W z1.1 z1.2)
        have q2 := Lib.hid (fun W => num_Small_any (Num.zigI (x.off - ah.off - ah.len)) W z2.1 z2.2)
        have q3 := Lib.hid (fun W => ismall_any x.len W)
        have ht2 : tail2B 3 ah x = (Num.small (Num.zigI (x.last - ah.last)).toNat ++ Num.small (Num.zigI (x.off - ah.off - ah.len)).toNat) ++ Num.small (u64N x.len) := rfl
        rw [ht2] at HA
        have t1 := (Num.small_len (Num.zigI (x.last - ah.last)).toNat).2
        have t2 := (Num.small_len (Num.zigI (x.off - ah.off - ah.len)).toNat).2
        have t3 := (Num.small_len (u64N x.len)).2
        have w1' : IntKind.i64.wrap (x.last - ah.last) = x.last - ah.last := IntWalk.i64_in _ (by omega)
        have w2' : IntKind.i64.wrap (x.off - ah.off) = x.off - ah.off := IntWalk.i64_in _ (by omega)
        have w3' : IntKind.i64.wrap (x.off - ah.off - ah.len) = x.off - ah.off - ah.len := IntWalk.i64_in _ (by omega)
        generalize Num.small (Num.zigI (x.last - ah.last)).toNat = y1 at *
        generalize Num.small (Num.zigI (x.off - ah.off - ah.len)).toNat = y2 at *
        generalize Num.small (u64N x.len) = y3 at *
        generalize Num.zigI (x.last - ah.last) = p1 at *
        generalize Num.zigI (x.off - ah.off - ah.len) = p2 at *
        have hadd1 : ∀ W, (Op.stringOp .add (bs y1) (bs y2)).run Tryz.prog W = .ok (.string (bs (y1 ++ y2))) W := fun W => run_add_bs (P := Tryz.prog) y1 y2 (by omega) W
        have hadd2 : ∀ W, (Op.stringOp .add (bs (y1 ++ y2)) (bs y3)).run Tryz.prog W = .ok (.string (bs (y1 ++ y2 ++ y3))) W := fun W => run_add_bs (P := Tryz.prog) (y1 ++ y2) y3 (by rw [List.length_append]; omega) W
        have HA2 := Lib.hid (show (A ++ (y1 ++ y2 ++ y3)) ++ ents2B 3 SY x (E.drop (i + 1)) = HEAD by rw [HR2.out, ← HA.out]; simp [List.append_assoc])
        have qw := Lib.hid (fun W (hW : MIs W w.heap.size m A SY (.slice sa SY.length sc) D n) => write_k w.heap.size w.heap.size A (y1 ++ y2 ++ y3) W hW.bld (by rw [List.length_append, List.length_append]; omega) (by have := hW.lo.2; omega))
        generalize y1 ++ y2 ++ y3 = z3 at *
        generalize y1 ++ y2 = z2 at *
        have HMY := Lib.hid M
        have HkH := Lib.hid kH
        have HkX := Lib.hid kX
        have Hb2 := Lib.hid hb
        clear HA ht2 M kH kX hb c0 c1 c2 c3 d0 d1 d2 d3 f0 f1 f2 f3
        go_wp2_with fail
        refine wp_region_led (R := GrowR) (by kernel_rfl) (by kernel_rfl) rfl (by kernel_rfl) ?_
        (refine lex_one (by kernel_rfl) (by kernel_rfl) (by kernel_rfl) (fun K hK => ?_); go_big_quiet_step (fail); refine wpQuiet_nil (hK _ ?_); clear hK K); (refine lex_one (by kernel_rfl) (by kernel_rfl) (by kernel_rfl) (fun K hK => ?_); go_big_quiet_step (fail); refine wpQuiet_nil (hK _ ?_); clear hK K); (refine lex_one (by kernel_rfl) (by kernel_rfl) (by kernel_rfl) (fun K hK => ?_); go_big_quiet_step (fail); refine wpQuiet_nil (hK _ ?_); clear hK K); (refine lex_one (by kernel_rfl) (by kernel_rfl) (by kernel_rfl) (fun K hK => ?_); go_big_quiet_step (fail); refine wpQuiet_nil (hK _ ?_); clear hK K); (refine lex_one (by kernel_rfl) (by kernel_rfl) (by kernel_rfl) (fun K hK => ?_); go_big_quiet_step (fail); refine wpQuiet_nil (hK _ ?_); clear hK K)
        (refine lex_call (f := 68) (args := #[.int .i64 (x.last - ah.last)]) (v := .int .u64 p1) (by kernel_rfl) (fun _ _ h => by cases h) (by kernel_rfl) (by kernel_rfl) (fun _ => by go_simp) (fun W hW => qz1.out W) (lex_put (type := 0) (pos := "") (fun K hK => ?_)); go_big_quiet_step (fail); refine wpQuiet_nil (hK _ ?_); clear hK K)
        (refine lex_call (f := 67) (args := #[.int .u64 p1]) (v := .string (bs y1)) (by kernel_rfl) (fun _ _ h => by cases h) (by kernel_rfl) (by kernel_rfl) (fun _ => by go_simp) (fun W hW => q1.out W) (lex_put (type := 0) (pos := "") (fun K hK => ?_)); go_big_quiet_step (fail); refine wpQuiet_nil (hK _ ?_); clear hK K)
        (refine lex_one (by kernel_rfl) (by kernel_rfl) (by kernel_rfl) (fun K hK => ?_); go_big_quiet_step (fail); refine wpQuiet_nil (hK _ ?_); clear hK K); (refine lex_one (by kernel_rfl) (by kernel_rfl) (by kernel_rfl) (fun K hK => ?_); go_big_quiet_step (fail); refine wpQuiet_nil (hK _ ?_); clear hK K); (refine lex_one (by kernel_rfl) (by kernel_rfl) (by kernel_rfl) (fun K hK => ?_); go_big_quiet_step (fail); refine wpQuiet_nil (hK _ ?_); clear hK K); (refine lex_one (by kernel_rfl) (by kernel_rfl) (by kernel_rfl) (fun K hK => ?_); go_big_quiet_step (fail); refine wpQuiet_nil (hK _ ?_); clear hK K); (refine lex_one (by kernel_rfl) (by kernel_rfl) (by kernel_rfl) (fun K hK => ?_); go_big_quiet_step (fail); refine wpQuiet_nil (hK _ ?_); clear hK K); (refine lex_one (by kernel_rfl) (by kernel_rfl) (by kernel_rfl) (fun K hK => ?_); go_big_quiet_step (fail); refine wpQuiet_nil (hK _ ?_); clear hK K); (refine lex_one (by kernel_rfl) (by kernel_rfl) (by kernel_rfl) (fun K hK => ?_); go_big_quiet_step (fail); refine wpQuiet_nil (hK _ ?_); clear hK K); (refine lex_one (by kernel_rfl) (by kernel_rfl) (by kernel_rfl) (fun K hK => ?_); go_big_quiet_step (fail); refine wpQuiet_nil (hK _ ?_); clear hK K)
        (refine lex_call (f := 68) (args := #[.int .i64 (x.off - ah.off - ah.len)]) (v := .int .u64 p2) (by kernel_rfl) (fun _ _ h => by cases h) (by kernel_rfl) (by kernel_rfl) (fun _ => by go_simp) (fun W hW => qz2.out W) (lex_put (type := 0) (pos := "") (fun K hK => ?_)); go_big_quiet_step (fail); refine wpQuiet_nil (hK _ ?_); clear hK K)
        (refine lex_call (f := 67) (args := #[.int .u64 p2]) (v := .string (bs y2)) (by kernel_rfl) (fun _ _ h => by cases h) (by kernel_rfl) (by kernel_rfl) (fun _ => by go_simp) (fun W hW => q2.out W) (lex_put (type := 0) (pos := "") (fun K hK => ?_)); go_big_quiet_step (fail); refine wpQuiet_nil (hK _ ?_); clear hK K)
        (refine lex_one (by kernel_rfl) (by kernel_rfl) (by kernel_rfl) (fun K hK => ?_); go_big_quiet_step (fail); refine wpQuiet_nil (hK _ ?_); clear hK K); (refine lex_one (by kernel_rfl) (by kernel_rfl) (by kernel_rfl) (fun K hK => ?_); go_big_quiet_step (fail); refine wpQuiet_nil (hK _ ?_); clear hK K); (refine lex_one (by kernel_rfl) (by kernel_rfl) (by kernel_rfl) (fun K hK => ?_); go_big_quiet_step (fail); refine wpQuiet_nil (hK _ ?_); clear hK K)
        (refine lex_call (f := 64) (args := #[.int .i64 x.len]) (v := .string (bs y3)) (by kernel_rfl) (fun _ _ h => by cases h) (by kernel_rfl) (by kernel_rfl) (fun _ => by go_simp) (fun W hW => q3.out W) (lex_put (type := 0) (pos := "") (fun K hK => ?_)); go_big_quiet_step (fail); refine wpQuiet_nil (hK _ ?_); clear hK K)
        (refine lex_one (by kernel_rfl) (by kernel_rfl) (by kernel_rfl) (fun K hK => ?_); go_big_quiet_step (fail); refine wpQuiet_nil (hK _ ?_); clear hK K)
        refine lex_nil (by kernel_rfl) (by kernel_rfl) (by kernel_rfl) ?_
        intro w5 hb5
        simp only [hideAll]
        have b5 := Hb2.out.trans (Below.mono hb5 Hb2.out.size)
        have M5 := HMY.out.below hb5
        have kH5 := Blk.below HkH.out hb5 HkH.out.lt
        have kX5 := Blk.below HkX.out hb5 HkX.out.lt
        clear g1 g2 g3 HMY HkH HkX Hb2
        go_wp2_with fail
        refine (qw.out _ M5).mono ?_
        rintro e w6 ⟨rfl, hB6, hk6⟩
        have M6 := M5.write hB6 hk6
        have kH6 := hk6.blk kH5 (by omega) (by decide)
        have kX6 := hk6.blk kX5 (by omega) (by decide)
        have b6 := b5.trans hk6.1
        obtain ⟨⟨c0, c1, c2, c3⟩, _⟩ := cells4 kX6
        obtain ⟨⟨d0, d1, d2, d3⟩, f0, f1, f2, f3⟩ := cells4 kH6
        obtain ⟨kH7, K7⟩ := set4 kH6 (.slice a' x.labels.length c') (.int .i64 x.last) (.int .i64 x.off) (.int .i64 x.len)
        have HkH7 := Lib.hid kH7
        have HK7 := Lib.hid K7
        have HM6 := Lib.hid M6
        have HtH := Lib.hid (tag_blk kH6)
        clear M5 kH5 kX5 b5 hB6 hk6 qw kH7 K7 M6 kH6 kX6
        go_wp2_with fail
        go_roundw
        case rel =>
          have ht := HtH.out
          have hM6 := HM6.out
          refine ⟨i + 1, _, x, _, by omega, by go_num, ⟨bld_kept hM6.bld HK7.out (by omega) (fun g e => by subst e; rw [ht]; simp), ownsRow_kept hM6.row HK7.out (fun b e e2 => ?_), ownsMap_kept hM6.map HK7.out (fun e => ?_), hM6.lo.1, Nat.lt_of_lt_of_le hM6.lo.2 HK7.out.size⟩, HkH7.out, ⟨n1, n2, n3, n4, n5, n6⟩, b6.trans (HK7.out.below b6.size fun k e => by omega), HA2⟩
          · subst e2
            rw [tag_row hM6.row e] at ht
            simp at ht
          · have h1 := tag_map hM6.map
            rw [e, ht] at h1
            simp at h1
        case measure => simp [intOf]; omega
    · rw [List.drop_length, show ents2B 3 SY ah [] = [] from rfl, List.append_nil] at HA
      obtain rfl := HA.out
      have hpr := pairs_len E (fun x hx => (labs_len (HRT.out x hx)).1)
      have hkl := keys_len E
      have QP := Lib.hid (ipostings_any E _ wr (H.out.below hb) (by omega))
      have hlo := M.lo
      have HMw := Lib.hid M
      have HPO := Lib.hid (show postB E = (keysOf E).flatMap (chunkP (pairsI E)) from rfl)
      have HOK := Lib.hid (keys_ok H.out)
      have HSO := Lib.hid (post_sorted E)
      clear M HX HRT HMEM HND HSb HK
      go_wp2_with fail
      refine QP.out.mono ?_
      rintro e w2 ⟨kv, D2, rfl, hp, hb2⟩
      have B2 := hb.trans (hb2.mono hb.size)
      have M2 := HMw.out.below hb2
      clear QP HMw
      generalize hB0 : wr.heap.size = B0 at *
      obtain ⟨XS, hXS, hseq⟩ := post2_stops 7 (by decide) w.heap.size B0 w.heap.size (pairsI E) (keysOf E) kv D2 w2 hp hlo.2 B2.size HOK.out (by omega) (by unfold maxLen; omega)
      go_wp2_with fail
      refine (wpIn_wide (n := 8)).1 ?_
      refine range_pair2 (α := LbV w2 B0 (pairsI E)) 18 133 134 rfl (by decide) (gf := 105) (lb := #[.pointer (some ⟨B0 + 2, 0, none⟩), .pointer (some ⟨B0 + 1, 0, none⟩)]) rfl trivial (enters_of Tryz.func105 (by kernel_rfl) rfl)
        hseq KB.t (KB.b B2.size) (Below.refl _ _)
        (fun pre W => BldAt w.heap.size w.heap.size (A ++ pre.flatMap (fun x => chunkP (pairsI E) x.1.1)) W ∧ Below w.heap.size w W ∧ KB w.heap.size w2.heap.size w.heap.size w2 W)
        (fun _ _ _ => False)
        (ownFrom_bld w.heap.size w2.heap.size (by have := M2.lo.2; omega) B2.size _ (fun W => True) w w2 (Nat.le_refl _))
        (fun _ _ _ _ _ hs _ _ => hs)
        ⟨by simpa using M2.bld, B2, KB.refl _ _ _ _⟩
        ?assign ?body ?done ?stop
      case assign =>
        intro l x W K hK
        gi_wp2
        first | exact hK | simpa using hK
      case body =>
        rintro l pre x W ⟨hBd, hBw, hKB⟩ hlt
        have HPX := Lib.hid (show A ++ (pre ++ [x]).flatMap (fun x => chunkP (pairsI E) x.1.1) = (A ++ pre.flatMap (fun x => chunkP (pairsI E) x.1.1)) ++ (Num.small (valOf (pairsI E) x.1.1).length ++ dltN 0 (valOf (pairsI E) x.1.1)) by simp [List.append_assoc, chunkP])
        have hpl : (pre.flatMap fun x => chunkP (pairsI E) x.1.1).length ≤ pre.length * 1210 := flat_le _ _ _ (fun z _ => Nat.le_trans (chunk_len _ _) (by omega))
        have hXl : XS.length = (keysOf E).length := by rw [← hXS, List.length_map]
        have hAA : (A ++ pre.flatMap (fun x => chunkP (pairsI E) x.1.1)).length ≤ 300000 := by rw [List.length_append]; omega
        generalize pre ++ [x] = px at *
        generalize A ++ pre.flatMap (fun x => chunkP (pairsI E) x.1.1) = AA at *
        have hoi := x.2.2
        have hLs := HSO.out x.1.1
        have hLl := val_len (pairsI E) x.1.1
        have hLd := dlt_len (valOf (pairsI E) x.1.1) 0
        generalize valOf (pairsI E) x.1.1 = L at *
        generalize x.1.2 = pv at *
        have hrow := hoi.1
        rw [intsN_len] at hrow
        obtain ⟨va, vc, rfl⟩ := row_form hrow
        have HROW := Lib.hid hrow
        have HKW := Lib.hid hKB
        have HBW := Lib.hid hBw
        clear hrow hoi hKB hBw
        have q1 := Lib.hid (fun W => ismall_any (L.length : Int) W)
        have hu : u64N (L.length : Int) = L.length := by unfold u64N; omega
        rw [hu] at q1
        have t1 := (Num.small_len L.length).2
        have HA1 := Lib.hid (show (AA ++ Num.small L.length) ++ dltN 0 (L.drop 0) = AA ++ (Num.small L.length ++ dltN 0 L) from List.append_assoc _ _ _)
        generalize hTT : AA ++ (Num.small L.length ++ dltN 0 L) = TT at *
        have hTl : TT.length ≤ 400000 := by rw [← hTT, List.length_append, List.length_append]; omega
        generalize Num.small L.length = nl at *
        have q2 := Lib.hid (fun W (hW : BldAt w.heap.size w.heap.size AA W) (hs : w.heap.size ≤ W.heap.size) => write_k w.heap.size w.heap.size AA nl W hW (by omega) hs)
        have hWs : w.heap.size ≤ W.heap.size := HBW.out.size
        clear hu hTT hpl hXl
        gi_wp2_with fail
        refine ⟨trivial, ?_⟩
        refine (CallsIn.inRound l (callsIn_wide.2 (q1.out _))).mono ?_
        rintro e w3 ⟨rfl, hb3⟩
        have hBd3 := hBd.below hb3
        have k3 := BK.of_below (b := w.heap.size) hb3 hWs
        have hs3 := Nat.le_trans hWs k3.1.size
        clear hBd hb3 q1
        gi_wp2_with fail
        refine ⟨trivial, ?_⟩
        refine (CallsIn.inRound l (callsIn_wide.2 (q2.out _ hBd3 hs3))).mono ?_
        rintro e w4 ⟨rfl, hBd4, k4⟩
        have k5 := k3.trans k4
        clear k3 k4 hBd3 q2 hs3
        gi_wp2_with fail
        gi_loopw [141, 19] (fun vi vf wr => ∃ (k f : Nat) (A2 : List UInt8), k ≤ L.length ∧ vi = .int .i64 (k : Int) ∧ vf = .int .i64 (f : Int) ∧ f ≤ E.length ∧ Hid (∀ j, (h : j < L.length) → k ≤ j → f ≤ L[j]) ∧ BldAt w.heap.size w.heap.size A2 wr ∧ BK w.heap.size w.heap.size W wr ∧ Hid (A2 ++ dltN f (L.drop k) = TT)) (fun vi _ _ => L.length - (intOf vi).toNat)
        case atStart => exact ⟨0, 0, _, Nat.zero_le _, rfl, rfl, Nat.zero_le _, Lib.hid (fun _ _ _ => Nat.zero_le _), hBd4, k5, HA1⟩
        case round =>
          clear hBd4 k5 HA1
          obtain ⟨k, f, A2, hk, rfl, rfl, hfE, HF, hBd, hbk, HA2⟩ := hrel
          have hA2l : A2.length ≤ 400000 := by
            have h1 := congrArg List.length HA2.out
            rw [List.length_append] at h1
            omega
          by_cases hlt2 : k < L.length
          · obtain ⟨g, rfl⟩ : ∃ g, va = some ⟨g, 0, none⟩ := by
              rcases HROW.out.2 with ⟨_, e⟩ | ⟨g, cap, cur, e, _⟩
              · omega
              · exact ⟨g, (Value.slice.inj e).1⟩
            have hgb := HROW.out.lt g rfl
            have hrow := (HKW.out.t (KB.of hbk)).row HROW.out (fun g' hg' => by obtain rfl := Option.some.inj hg'; exact ⟨hgb.2, by have h1 : B0 + 1 ≤ g := hgb.1; show g ≠ w.heap.size; omega⟩) (by decide)
            have y0 := hrow.cells (g := g) rfl k (.int .i64 (L[k] : Nat)) (by simp [intsN, hlt2])
            rw [add_at] at y0
            have hfk := HF.out k hlt2 (Nat.le_refl _)
            have hLE := hLs.2 L[k] (List.getElem_mem hlt2)
            have HF2 := Lib.hid (fun j (h : j < L.length) (hkj : k + 1 ≤ j) => List.pairwise_iff_getElem.1 hLs.1 k j hlt2 h (by omega))
            have hdr : dltN f (L.drop k) = Num.small (L[k] - f) ++ dltN L[k] (L.drop (k + 1)) := by rw [List.drop_eq_getElem_cons hlt2, dltN]
            rw [hdr] at HA2
            clear hdr hrow
            generalize L[k] = z at *
            have hu : u64N ((z : Int) - (f : Int)) = z - f := by unfold u64N; omega
            have hw1 : IntKind.i64.wrap ((z : Int) - (f : Int)) = (z : Int) - (f : Int) := IntWalk.i64_in _ (by omega)
            have q1 := Lib.hid (fun W => ismall_any ((z : Int) - (f : Int)) W)
            rw [hu] at q1
            have t1 := (Num.small_len (z - f)).2
            have HA3 := Lib.hid (show (A2 ++ Num.small (z - f)) ++ dltN z (L.drop (k + 1)) = TT by rw [← HA2.out, List.append_assoc])
            generalize Num.small (z - f) = ns at *
            have q2 := Lib.hid (fun W (hW : BldAt w.heap.size w.heap.size A2 W) (hs : w.heap.size ≤ W.heap.size) => write_k w.heap.size w.heap.size A2 ns W hW (by omega) hs)
            have hrs : w.heap.size ≤ wr.heap.size := Nat.le_trans hWs hbk.1.size
            clear hu HA2 HF
            gi_wp2_with fail
            refine ⟨trivial, ?_⟩
            refine (CallsIn.inRound l (callsIn_wide.2 (q1.out _))).mono ?_
            rintro e w3 ⟨rfl, hb3⟩
            have hBd3 := hBd.below hb3
            have k3 := hbk.trans (BK.of_below (b := w.heap.size) hb3 hrs)
            have hs3 := Nat.le_trans hWs k3.1.size
            clear hBd hb3 q1 hbk y0
            gi_wp2_with fail
            refine ⟨trivial, ?_⟩
            refine (CallsIn.inRound l (callsIn_wide.2 (q2.out _ hBd3 hs3))).mono ?_
            rintro e w4 ⟨rfl, hBd4, k4⟩
            have k5 := k3.trans k4
            clear k3 k4 hBd3 q2 hs3
            gi_wp2_with fail
            go_roundw
            case rel => exact ⟨k + 1, z, _, by omega, by go_num, rfl, by omega, HF2, hBd4, k5, HA3⟩
            case measure => simp [intOf]; omega
          · obtain rfl : k = L.length := by omega
            rw [List.drop_length, show dltN f [] = [] from rfl, List.append_nil] at HA2
            obtain rfl := HA2.out
            gi_wp2_with fail
            have hkb := HKW.out.t (KB.of hbk)
            exact ⟨hbk.from' (by have := M2.lo.2; omega), KB.of hbk, by rw [HPX.out]; exact hBd, HBW.out.trans hbk.1, hkb⟩
      case done =>
        rintro D2 ys W hD rfl ⟨hBd, hBw, hKB⟩ hK
        have hfm : ys.flatMap (fun x => chunkP (pairsI E) x.1.1) = postB E := by
          rw [HPO.out, ← hXS, List.flatMap_map]
        rw [hfm] at hBd
        have Q := Lib.hid (builderString_k _ _ _ _ hBd hBw.size)
        have hD2 : D2 ≠ w.heap.size := by have := M2.lo.2; omega
        clear hseq hp HOK HSO
        go_wp2_with fail
        refine Q.out.mono ?_
        rintro e w3 ⟨rfl, hB3, hb3⟩
        have hK3 := hb3.2 D2 _ hK (fun e => hD2 (Option.some.inj e)) (fun c fz e => by cases e)
        have hbb := hBw.trans hb3.1
        go_wp2_with fail
        refine ⟨by simp, .inl ⟨_, _, rfl, run_takeDeferred hK3, ?_⟩⟩
        refine ⟨_, results_tmp rfl _ _ _, by rw [HMO.out]; rfl, hbb.trans (belowK_b (w := w) (Nat.le_refl _) w3 D2 _ _ (by have := B2.size; omega) hK3 rfl rfl)⟩
      case stop =>
        rintro D c pre W _ _ h _
        exact h.elim
end Go.Proofs.YtpeahjocimhneaaGreatDoor
namespace Go.Proofs.YtpeahjocimhneaaGreatDoor
open Go.RowKit Go.Maps Go.WideMaps
attribute [local go_sem] bs_toList bs_size

def putIV (E : List En) (g : Int) : Value := .tuple #[.string (bs (putI E g).1), .int .i64 (putI E g).2]
theorem body_len (E : List En) (g : Int) (h : validI E g = 0) : (bodyI E g).length ≤ 1000000 := by
  obtain ⟨h1, h2, h3, _, h4⟩ := valid_parts h
  have hr : ∀ x ∈ E, rightB x = true := fun x hx => (h4 x hx).1
  unfold bodyI
  split
  · have := ents1_len E hr
    unfold oneI
    rw [List.length_append, Num.wide_len]
    omega
  · have h5 := head_len g E hr h3
    have h6 := pairs_len E (fun x hx => (labs_len (hr x hx)).1)
    have h7 := keys_len E
    have h8 : (postB E).length ≤ (keysOf E).length * 1210 := flat_le (chunkP (pairsI E)) 1210 (keysOf E) (fun z _ => Nat.le_trans (chunk_len _ _) (by omega))
    unfold moreI
    rw [List.length_append]
    split
    · omega
    · simp; omega
set_option maxRecDepth 100000 in
set_option maxHeartbeats 4000000 in
theorem IPut_any (E : List En) (v : Value) (g : Int) (w : World) (h : EntsAt w v E) (h1 : -9223372036854775808 ≤ g) (h2 : g ≤ 9223372036854775807) :
    Calls Tryz.prog 11 #[v, .int .i64 g] w fun e w' => e = .returned (putIV E g) ∧ Below w.heap.size w w' := by
  have qv := Lib.hid (IValid_any E v g w h h1 h2)
  have HP0 := Lib.hid (show validI E g ≠ 0 → putIV E g = .tuple #[.string ⟨#[]⟩, .int .i64 (validI E g)] from fun hv => by unfold putIV; rw [putI_bad hv]; rfl)
  have HP1 := Lib.hid (show validI E g = 0 → putIV E g = .tuple #[.string (bs (bodyI E g ++ tailB (bodyI E g))), .int .i64 0] from fun hv => by unfold putIV; rw [putI_ok hv])
  have HVP := Lib.hid (valid_parts (l := E) (g := g))
  have HBL := Lib.hid (body_len E g)
  have HBG := Lib.hid (show bodyI E g = if g = 1 then oneI E else moreI E g from rfl)
  have H := Lib.hid h
  clear h
  generalize putIV E g = PV at *
  generalize validI E g = VV at *
  generalize bodyI E g = BD at *
  by_cases hv : VV = 0
  · subst hv
    have HY := Lib.hid (HP1.out rfl)
    obtain ⟨g1, g3, hE, _, hr⟩ := HVP.out rfl
    have HR := Lib.hid (fun x hx => (hr x hx).1)
    have hbl := HBL.out rfl
    have qt := Lib.hid (fun W => Tail_any BD (by omega) W)
    have htl := tailB_len BD
    have hadd : ∀ W, (Op.stringOp .add (bs BD) (bs (tailB BD))).run Tryz.prog W = .ok (.string (bs (BD ++ tailB BD))) W := fun W => run_add_bs (P := Tryz.prog) BD (tailB BD) (by omega) W
    clear HP0 HP1 HVP HBL hr
    rcases (show g = 1 ∨ g = 2 ∨ g = 3 by omega) with rfl | rfl | rfl
    · have hB := HBG.out
      rw [if_pos rfl] at hB
      have q := Lib.hid (fun W (hW : EntsAt W v E) => one_any E v W hW HR.out hE)
      rw [← hB] at q
      clear HBG hB
      generalize tailB BD = TB at *
      go_enter Tryz.func11, Tryz.ntmps11
      go_wp2_with fail
      refine qv.out.mono ?_
      rintro e w1 ⟨rfl, b1⟩
      have H1 := Lib.hid (H.out.below b1)
      clear qv
      go_wp2_with fail
      refine (q.out _ H1.out).mono ?_
      rintro e w2 ⟨rfl, b2⟩
      have b3 := b1.trans (b2.mono b1.size)
      clear q b1 b2 H1
      go_wp2_with fail
      refine (qt.out _).mono ?_
      rintro e w3 ⟨rfl, b4⟩
      have b5 := b3.trans (b4.mono b3.size)
      clear qt b3 b4
      go_wp2_with fail
      go_ret2
      exact ⟨by rw [HY.out]; rfl, b5⟩
    · have hB := HBG.out
      rw [if_neg (by decide)] at hB
      have q := Lib.hid (fun W (hW : EntsAt W v E) => more2_any E v W hW HR.out hE)
      rw [← hB] at q
      clear HBG hB
      generalize tailB BD = TB at *
      go_enter Tryz.func11, Tryz.ntmps11
      go_wp2_with fail
      refine qv.out.mono ?_
      rintro e w1 ⟨rfl, b1⟩
      have H1 := Lib.hid (H.out.below b1)
      clear qv
      go_wp2_with fail
      refine (q.out _ H1.out).mono ?_
      rintro e w2 ⟨rfl, b2⟩
      have b3 := b1.trans (b2.mono b1.size)
      clear q b1 b2 H1
      go_wp2_with fail
      refine (qt.out _).mono ?_
      rintro e w3 ⟨rfl, b4⟩
      have b5 := b3.trans (b4.mono b3.size)
      clear qt b3 b4
      go_wp2_with fail
      go_ret2
      exact ⟨by rw [HY.out]; rfl, b5⟩
    · have hB := HBG.out
      rw [if_neg (by decide)] at hB
      have q := Lib.hid (fun W (hW : EntsAt W v E) => more3_any E v W hW HR.out hE)
      rw [← hB] at q
      clear HBG hB
      generalize tailB BD = TB at *
      go_enter Tryz.func11, Tryz.ntmps11
      go_wp2_with fail
      refine qv.out.mono ?_
      rintro e w1 ⟨rfl, b1⟩
      have H1 := Lib.hid (H.out.below b1)
      clear qv
      go_wp2_with fail
      refine (q.out _ H1.out).mono ?_
      rintro e w2 ⟨rfl, b2⟩
      have b3 := b1.trans (b2.mono b1.size)
      clear q b1 b2 H1
      go_wp2_with fail
      refine (qt.out _).mono ?_
      rintro e w3 ⟨rfl, b4⟩
      have b5 := b3.trans (b4.mono b3.size)
      clear qt b3 b4
      go_wp2_with fail
      go_ret2
      exact ⟨by rw [HY.out]; rfl, b5⟩
  · have HY := Lib.hid (HP0.out hv)
    have f1 : decide (VV = 0) = false := by simpa using hv
    clear HP0 HP1 HVP HBL HBG
    go_enter Tryz.func11, Tryz.ntmps11
    go_wp2_with fail
    refine qv.out.mono ?_
    rintro e w1 ⟨rfl, b1⟩
    go_wp2_with fail
    go_ret2
    exact ⟨by rw [HY.out]; rfl, b1⟩
end Go.Proofs.YtpeahjocimhneaaGreatDoor
