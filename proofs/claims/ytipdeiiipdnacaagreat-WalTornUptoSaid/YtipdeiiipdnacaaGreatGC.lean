/- Generation 1: a change of fixed size. Generation 1: changes are put. A region that draws its order, some of whose operations come in one row (each behind the one before it) and turn the world: phases. The others make memory alone. A region that draws its order: calls on a cursor, and an append onto a row of the call's own behind them: phases of both. Generation 1: a change is got. Generation 2: a change is put. Generation 2: changes are put. -/
import Derived.Test.YtipdeiiipdnacaaGreatGB
import Derived.Laws.CopyRow
import Derived.Laws.CopyOwn
import Derived.Test.YtipdeiiipdnacaaGreatGK
namespace Go.Proofs.YtipdeiiipdnacaaGreat
open Go.RowKit
attribute [local go_sem] bs_toList bs_size

def u64N (t : Int) : Nat := (t % 18446744073709551616).toNat
theorem u64N_wrap (t : Int) : IntKind.u64.wrap t = (u64N t : Int) := by
  simp only [IntKind.wrap, IntKind.bits, IntKind.signed, u64N]
  simp
  omega
theorem u64N_lt (t : Int) : u64N t < 18446744073709551616 := by unfold u64N; omega
def recHead (x : Rc) : List UInt8 := [UInt8.ofNat x.kind.toNat] ++ Num.wide (u64N x.t) ++ Num.wide (u64N x.u) ++ Num.wide x.v ++ [UInt8.ofNat x.labels.length]
def pad6 (L : List Lb) : List Lb := L ++ List.replicate (6 - L.length) ([], [])
def lbFix (x : Lb) : List UInt8 := Num.fixed x.1 12 ++ Num.fixed x.2 12
def recBody (x : Rc) : List UInt8 := recHead x ++ (pad6 x.labels).flatMap lbFix
/-- A change of fixed size. -/
def oneB (x : Rc) : List UInt8 := recBody x ++ tailB (recBody x)

theorem run_copy_rowN {P : Program} (w : World) (dT sT ty elem : TypeId) (g o dLen dCap : Nat) (a : Addr) (sLen sCap : Nat) (cur : Array Value) (t : TypeId) (cs : List Value) (sz n : Nat)
    (hu : P.underlying dT = some (.slice elem)) (hs : (P.info? elem).map (·.size) = some sz)
    (hg : w.heap[g]? = some (.cells cur t (0, 0))) (hn : n = Nat.min sLen dLen) (hc : cs.length = n * sz)
    (hsrc : ∀ j v, cs[j]? = some v → w.cell? (a.add j) = some v) (hfit : o + cs.length ≤ cur.size) (h1 : ∀ v ∈ cs, v.oneCell' = true) :
    (Builtin.copy_ #[dT, sT] ty #[.slice (some ⟨g, o, none⟩) dLen dCap, .slice (some a) sLen sCap]).run P w =
      .ok (goInt n) (w.setRow g (cur.toList.take o ++ cs ++ cur.toList.drop (o + cs.length)).toArray) := by
  have hl := run_loadCells_list (P := P) w a cs hsrc
  have hst := run_storeCells_at P g o t cs 0 cur w hg (by simpa using hfit) h1
  rw [hc] at hl
  cases hq : P.info? elem with
  | none => simp [hq] at hs
  | some i =>
    have hi : i.size = sz := by simpa [hq] using hs
    simp [Builtin.copy_, run_underlying hu, Builtin.lenOf, Builtin.firstCells, sizeOf, typeInfo, hq, hi, ← hn, hl, hst, hc]
theorem run_copy_noneN {P : Program} (w : World) (dT sT ty elem : TypeId) (a : Addr) (dLen dCap sCap : Nat) (hu : P.underlying dT = some (.slice elem)) (hs : ((P.info? elem).map (·.size)).isSome = true) :
    (Builtin.copy_ #[dT, sT] ty #[.slice (some a) dLen dCap, .slice none 0 sCap]).run P w = .ok (goInt 0) w := by
  cases hq : P.info? elem with
  | none => simp [hq] at hs
  | some i => simp [Builtin.copy_, run_underlying hu, Builtin.lenOf, Builtin.firstCells, sizeOf, typeInfo, hq, storeCells]

theorem wpList_copy_run {P : Program} (w : World) {Q : Exit → Act → World → Prop} {ops : Array Oper} {rest : List Oper} {o : Oper} {a : Act} (hgd : o.guard = none) (d s : Operand) (t t' : TypeId)
    (ho : o.op = .call { callee := .builtin .copy, args := #[d, s], argTypes := #[t, t'] }) (v u : Value) (hd : a.eval d = v) (hs : a.eval s = u) {v' : Value} {w' : World}
    (hr : (Builtin.copy_ #[t, t'] o.type #[v, u]).run P w = .ok v' w') (h : wpList P ops Q rest (a.put o.dst v') w') : wpList P ops Q (o :: rest) a w :=
  wpList_plain hgd fun K hK => by
    unfold Oper.wp execOp
    simp only [ho, resolve, invoke, builtin, Sem.run_bind, Sem.run_pure, Result.andThen_ok, List.map_toArray, List.map_cons, List.map_nil, hd, hs, hr]
    exact hK _ _ h
theorem pad6_len (L : List Lb) (h : L.length ≤ 6) : (pad6 L).length = 6 := by unfold pad6; simp; omega

theorem lbCells_append (L M : List Lb) : lbCells (L ++ M) = lbCells L ++ lbCells M := by unfold lbCells; rw [List.flatMap_append]
theorem lbCells_none (n : Nat) : lbCells (List.replicate n ([], [])) = List.replicate (n * 2) (.string ⟨#[]⟩) := by
  induction n with
  | zero => rfl
  | succ n ih =>
    rw [List.replicate_succ, show (n + 1) * 2 = n * 2 + 1 + 1 by omega, List.replicate_succ, List.replicate_succ, ← ih]
    rfl
theorem lbCells_src {w : World} {b o c : Nat} {L : List Lb} (h : LabsAt w (.slice (some ⟨b, o, none⟩) L.length c) L) : ∀ j v, (lbCells L)[j]? = some v → w.cell? ((⟨b, o, none⟩ : Addr).add j) = some v := fun j v hj => by
  obtain ⟨a, c', he, _, hc⟩ := h
  cases he
  have hlt : j < L.length * 2 := by
    have := (List.getElem?_eq_some_iff.1 hj).1
    rwa [lbCells_len] at this
  have hi : j / 2 < L.length := by omega
  obtain ⟨_, _, b', o', e, h1, h2⟩ := hc (j / 2) _ (List.getElem?_eq_getElem hi)
  cases e
  obtain ⟨g1, g2⟩ := lbCells_at L (j / 2) _ (List.getElem?_eq_getElem hi)
  have hadd : (⟨b, o, none⟩ : Addr).add j = ⟨b, o + j, none⟩ := by unfold Addr.add; split <;> simp_all
  rw [hadd]
  rcases (show j = j / 2 * 2 ∨ j = j / 2 * 2 + 1 by omega) with e | e
  · rw [e, g1] at hj
    rw [e, h1, hj]
  · rw [e, g2] at hj
    rw [e, ← Nat.add_assoc, h2, hj]
/-- Labels are copied into an array of six. -/
theorem copy_labels {w : World} {g : Nat} {sa : Option Addr} {c : Nat} {L : List Lb} (hB : Blk w g 142 (List.replicate 12 (.string ⟨#[]⟩)).toArray) (hL : LabsAt w (.slice sa L.length c) L) (h6 : L.length ≤ 6) :
    ∃ n w', (Builtin.copy_ #[48, 48] 3 #[.slice (some ⟨g, 0, none⟩) 6 6, .slice sa L.length c]).run Tryz.prog w = .ok (goInt n) w' ∧ Blk w' g 142 (lbCells (pad6 L)).toArray ∧ ∀ B w0, Below B w0 w → B ≤ g → Below B w0 w' := by
  have hp : lbCells (pad6 L) = lbCells L ++ List.replicate (12 - L.length * 2) (.string ⟨#[]⟩) := by
    unfold pad6
    rw [lbCells_append, lbCells_none]
    congr 2
    omega
  cases sa with
  | none =>
    have h0 : L = [] := by
      obtain ⟨a, c', he, _, hc⟩ := hL
      cases he
      cases L with
      | nil => rfl
      | cons x l =>
        obtain ⟨_, _, _, _, e, _⟩ := hc 0 x rfl
        cases e
    subst h0
    refine ⟨0, w, run_copy_noneN w _ _ _ 53 _ 6 6 c Tryz.underlying48 (by kernel_rfl), ?_, fun _ _ h _ => h⟩
    exact hB
  | some a =>
    have hm : Nat.min L.length 6 = L.length := Nat.min_eq_left h6
    by_cases h0 : L = []
    · subst h0
      refine ⟨0, _, run_copy_rowN w _ _ _ 53 g 0 6 6 a 0 c _ _ [] 2 0 Tryz.underlying48 (by kernel_rfl) hB rfl rfl (fun j v h => by simp at h) (by simp) (by simp), ?_, fun B w0 h hg => below_setRow h hg _⟩
      have := setRow_heap w g _ (List.replicate 12 (Value.string ⟨#[]⟩)).toArray _ _ hB
      exact this
    · obtain ⟨b, o, ha⟩ : ∃ b o, a = ⟨b, o, none⟩ := by
        obtain ⟨a', c', he, _, hc⟩ := hL
        cases he
        cases L with
        | nil => exact absurd rfl h0
        | cons x l =>
          obtain ⟨_, _, b, o, e, _⟩ := hc 0 x rfl
          exact ⟨b, o, Option.some.inj e⟩
      subst ha
      refine ⟨L.length, _, run_copy_rowN w _ _ _ 53 g 0 6 6 _ L.length c _ _ (lbCells L) 2 L.length Tryz.underlying48 (by kernel_rfl) hB hm.symm (lbCells_len L) (lbCells_src hL) (by rw [lbCells_len]; simp; omega) (fun v hv => ?_), ?_, fun B w0 h hg => below_setRow h hg _⟩
      · unfold lbCells at hv
        obtain ⟨x, _, hx⟩ := List.mem_flatMap.1 hv
        simp only [List.mem_cons, List.not_mem_nil, or_false] at hx
        rcases hx with rfl | rfl <;> rfl
      · have := setRow_heap w g (List.replicate 12 (Value.string ⟨#[]⟩)).toArray (lbCells (pad6 L)).toArray _ _ hB
        rw [hp] at this ⊢
        have e : List.take 0 (List.replicate 12 (Value.string ⟨#[]⟩)).toArray.toList ++ lbCells L ++ List.drop (0 + (lbCells L).length) (List.replicate 12 (Value.string ⟨#[]⟩)).toArray.toList = lbCells L ++ List.replicate (12 - L.length * 2) (.string ⟨#[]⟩) := by
          rw [lbCells_len, List.toList_toArray, List.take_zero, List.nil_append, Nat.zero_add, List.drop_replicate]
        rw [e]
        exact this

set_option maxRecDepth 100000 in
theorem run_index6 {X : List Lb} (h6 : X.length = 6) {i : Nat} {x : Lb} (hx : X[i]? = some x) (w : World) :
    (Instr.index 142 (.agg (lbCells X).toArray) (.int .i64 (i : Int))).run Tryz.prog w = .ok (.agg #[.string (bs x.1), .string (bs x.2)]) w := by
  have hi : i < 6 := by
    have := (List.getElem?_eq_some_iff.1 hx).1
    omega
  match X, h6 with
  | [a, b, c, d, e, f], _ =>
    rcases (show i = 0 ∨ i = 1 ∨ i = 2 ∨ i = 3 ∨ i = 4 ∨ i = 5 by omega) with rfl | rfl | rfl | rfl | rfl | rfl
    all_goals
      obtain rfl := Option.some.inj hx
      rfl
theorem lbFix_len (x : Lb) : (lbFix x).length = 26 := by
  unfold lbFix
  rw [List.length_append, Num.fixed_len, Num.fixed_len]
  rfl
theorem pad6_mem {L : List Lb} {x : Lb} (h : x ∈ pad6 L) : x ∈ L ∨ x = ([], []) := by
  unfold pad6 at h
  rcases List.mem_append.1 h with h | h
  · exact .inl h
  · exact .inr (List.eq_of_mem_replicate h)

set_option maxRecDepth 100000 in
set_option maxHeartbeats 4000000 in
theorem one_any (x : Rc) (sl : Value) (w : World) (hx : x.ok) (hL : LabsAt w sl x.labels) (hk : 0 ≤ x.kind ∧ x.kind < 256) (h6 : x.labels.length ≤ 6) :
    Calls Tryz.prog 72 #[.agg #[], recV x sl] w fun e w' => e = .returned (.string (bs (oneB x))) ∧ Below w.heap.size w w' := by
  obtain ⟨k, L, t, u, v⟩ := x
  obtain ⟨x1, x2, x3, x4, x5, x6, x7⟩ := hx
  simp only at x1 x2 x3 x4 x5 x6 x7 hL hk h6
  obtain ⟨kn, rfl⟩ : ∃ kn : Nat, k = kn := ⟨k.toNat, by omega⟩
  rw [show recV ⟨kn, L, t, u, v⟩ sl = .agg #[.int .i64 (kn : Int), sl, .int .i64 t, .int .i64 u, .int .u64 (v : Int)] from rfl]
  have hb0 : Below w.heap.size w ((w.alloc (.cells #[] 78)).alloc (.cells #[.int .i64 (kn : Int), sl, .int .i64 t, .int .i64 u, .int .u64 (v : Int)] 51)) := ((Below.refl _ w).alloc (Nat.le_refl _) _).alloc (by simp) _
  have hk0 : Blk ((w.alloc (.cells #[] 78)).alloc (.cells #[.int .i64 (kn : Int), sl, .int .i64 t, .int .i64 u, .int .u64 (v : Int)] 51)) (w.heap.size + 1) 51 #[.int .i64 (kn : Int), sl, .int .i64 t, .int .i64 u, .int .u64 (v : Int)] := by
    have := Blk.new (w.alloc (.cells #[] 78)) 51 #[.int .i64 (kn : Int), sl, .int .i64 t, .int .i64 u, .int .u64 (v : Int)]
    rwa [World.size_alloc] at this
  generalize hW0 : (w.alloc (.cells #[] 78)).alloc (.cells #[.int .i64 (kn : Int), sl, .int .i64 t, .int .i64 u, .int .u64 (v : Int)] 51) = W0 at *
  have hL0 := hL.below hb0
  have HB0 := Lib.hid hb0
  have c0 : W0.cell? ⟨w.heap.size + 1, 0, none⟩ = some (.int .i64 (kn : Int)) := (Blk.cell hk0 0).trans rfl
  have c1 : W0.cell? ⟨w.heap.size + 1, 1, none⟩ = some sl := (Blk.cell hk0 1).trans rfl
  have c2 : W0.cell? ⟨w.heap.size + 1, 2, none⟩ = some (.int .i64 t) := (Blk.cell hk0 2).trans rfl
  have c3 : W0.cell? ⟨w.heap.size + 1, 3, none⟩ = some (.int .i64 u) := (Blk.cell hk0 3).trans rfl
  have c4 : W0.cell? ⟨w.heap.size + 1, 4, none⟩ = some (.int .u64 (v : Int)) := (Blk.cell hk0 4).trans rfl
  have g0 := grow_cell c0
  have g1 := grow_cell c1
  have g2 := grow_cell c2
  have g3 := grow_cell c3
  have g4 := grow_cell c4
  have w1 := u64N_wrap t
  have w2 := u64N_wrap u
  have b1 := u64N_lt t
  have b2 := u64N_lt u
  have hO : oneB ⟨kn, L, t, u, v⟩ = (recHead ⟨kn, L, t, u, v⟩ ++ (pad6 L).flatMap lbFix) ++ tailB (recHead ⟨kn, L, t, u, v⟩ ++ (pad6 L).flatMap lbFix) := rfl
  have hH : recHead ⟨kn, L, t, u, v⟩ = [UInt8.ofNat kn] ++ Num.wide (u64N t) ++ Num.wide (u64N u) ++ Num.wide v ++ [UInt8.ofNat L.length] := rfl
  have hRl : (recHead ⟨kn, L, t, u, v⟩).length = 26 := by rw [hH]; simp [Num.wide_len]
  have q1 := Lib.hid (fun W => num_Wide_any (u64N t : Int) W (by omega) (by omega))
  have q2 := Lib.hid (fun W => num_Wide_any (u64N u : Int) W (by omega) (by omega))
  have q3 := Lib.hid (fun W => num_Wide_any (v : Int) W (by omega) (by omega))
  rw [show ((u64N t : Int).toNat) = u64N t from rfl] at q1
  rw [show ((u64N u : Int).toNat) = u64N u from rfl] at q2
  rw [show ((v : Int).toNat) = v from rfl] at q3
  obtain ⟨sa, sc, rfl, _, hLc⟩ := id hL0
  have hku : IntKind.u8.wrap (kn : Int) = kn := by simp [IntKind.wrap, IntKind.bits, IntKind.signed]; omega
  have hlu : IntKind.u8.wrap (L.length : Int) = L.length := by simp [IntKind.wrap, IntKind.bits, IntKind.signed]; omega
  have hkb : (UInt8.ofNat kn).toNat = kn := Num.ofNat_toNat kn (by omega)
  have hlb : (UInt8.ofNat L.length).toNat = L.length := Num.ofNat_toNat _ (by omega)
  have l1 := Num.wide_len (u64N t)
  have l2 := Num.wide_len (u64N u)
  have l3 := Num.wide_len v
  generalize Num.wide (u64N t) = y1 at *
  generalize Num.wide (u64N u) = y2 at *
  generalize Num.wide v = y3 at *
  have a1 : ∀ W, (Op.stringOp .add (bs [UInt8.ofNat kn]) (bs y1)).run Tryz.prog W = .ok (.string (bs ([UInt8.ofNat kn] ++ y1))) W := fun W => run_add_bs (P := Tryz.prog) _ _ (by simp; omega) W
  have a2 : ∀ W, (Op.stringOp .add (bs ([UInt8.ofNat kn] ++ y1)) (bs y2)).run Tryz.prog W = .ok (.string (bs ([UInt8.ofNat kn] ++ y1 ++ y2))) W := fun W => run_add_bs (P := Tryz.prog) _ _ (by simp; omega) W
  have a3 : ∀ W, (Op.stringOp .add (bs ([UInt8.ofNat kn] ++ y1 ++ y2)) (bs y3)).run Tryz.prog W = .ok (.string (bs ([UInt8.ofNat kn] ++ y1 ++ y2 ++ y3))) W := fun W => run_add_bs (P := Tryz.prog) _ _ (by simp; omega) W
  have a4 : ∀ W, (Op.stringOp .add (bs ([UInt8.ofNat kn] ++ y1 ++ y2 ++ y3)) (bs [UInt8.ofNat L.length])).run Tryz.prog W = .ok (.string (bs (recHead ⟨kn, L, t, u, v⟩))) W := fun W => by rw [hH]; exact run_add_bs (P := Tryz.prog) _ _ (by simp; omega) W
  clear hH
  generalize recHead ⟨kn, L, t, u, v⟩ = H at *
  generalize [UInt8.ofNat kn] ++ y1 ++ y2 ++ y3 = z3 at *
  generalize [UInt8.ofNat kn] ++ y1 ++ y2 = z2 at *
  generalize [UInt8.ofNat kn] ++ y1 = z1 at *
  have HO := Lib.hid hO
  clear hO
  generalize oneB ⟨kn, L, t, u, v⟩ = O at *
  go_enter Tryz.func72, Tryz.ntmps72
  go_wp2_with fail
  refine wp_region_at (R := GrowR) (by kernel_rfl) (by kernel_rfl) ?_
  (refine lex_one (by kernel_rfl) (by kernel_rfl) (by kernel_rfl) (fun K hK => ?_); go_big_quiet_step (fail); refine wpQuiet_nil (hK _ ?_); clear hK K); (refine lex_one (by kernel_rfl) (by kernel_rfl) (by kernel_rfl) (fun K hK => ?_); go_big_quiet_step (fail); refine wpQuiet_nil (hK _ ?_); clear hK K); (refine lex_one (by kernel_rfl) (by kernel_rfl) (by kernel_rfl) (fun K hK => ?_); go_big_quiet_step (fail); refine wpQuiet_nil (hK _ ?_); clear hK K)
  (refine lex_make (rowOf_keeps [UInt8.ofNat kn]) (by kernel_rfl) (fun _ _ h => by cases h) (by kernel_rfl) rfl (make_bytes 5 [UInt8.ofNat kn] fun W => by go_simp) ?_)
  (refine lex_turn (by kernel_rfl) rfl rfl (by kernel_rfl) (by kernel_rfl) (turn_bytes 54 9 5 Tryz.underlying54 Tryz.underlying5 Tryz.underlying9 [UInt8.ofNat kn]) (lex_put (type := 0) (pos := "") (fun K hK => ?_)); go_big_quiet_step (fail); refine wpQuiet_nil (hK _ ?_); clear hK K)
  (refine lex_one (by kernel_rfl) (by kernel_rfl) (by kernel_rfl) (fun K hK => ?_); go_big_quiet_step (fail); refine wpQuiet_nil (hK _ ?_); clear hK K); (refine lex_one (by kernel_rfl) (by kernel_rfl) (by kernel_rfl) (fun K hK => ?_); go_big_quiet_step (fail); refine wpQuiet_nil (hK _ ?_); clear hK K); (refine lex_one (by kernel_rfl) (by kernel_rfl) (by kernel_rfl) (fun K hK => ?_); go_big_quiet_step (fail); refine wpQuiet_nil (hK _ ?_); clear hK K)
  (refine lex_call (f := 77) (args := #[.int .u64 (u64N t : Int)]) (v := .string (bs y1)) (by kernel_rfl) (fun _ _ h => by cases h) (by kernel_rfl) (by kernel_rfl) (fun _ => by go_simp) (fun W hW => q1.out W) (lex_put (type := 0) (pos := "") (fun K hK => ?_)); go_big_quiet_step (fail); refine wpQuiet_nil (hK _ ?_); clear hK K)
  (refine lex_one (by kernel_rfl) (by kernel_rfl) (by kernel_rfl) (fun K hK => ?_); go_big_quiet_step (fail); refine wpQuiet_nil (hK _ ?_); clear hK K); (refine lex_one (by kernel_rfl) (by kernel_rfl) (by kernel_rfl) (fun K hK => ?_); go_big_quiet_step (fail); refine wpQuiet_nil (hK _ ?_); clear hK K); (refine lex_one (by kernel_rfl) (by kernel_rfl) (by kernel_rfl) (fun K hK => ?_); go_big_quiet_step (fail); refine wpQuiet_nil (hK _ ?_); clear hK K); (refine lex_one (by kernel_rfl) (by kernel_rfl) (by kernel_rfl) (fun K hK => ?_); go_big_quiet_step (fail); refine wpQuiet_nil (hK _ ?_); clear hK K)
  (refine lex_call (f := 77) (args := #[.int .u64 (u64N u : Int)]) (v := .string (bs y2)) (by kernel_rfl) (fun _ _ h => by cases h) (by kernel_rfl) (by kernel_rfl) (fun _ => by go_simp) (fun W hW => q2.out W) (lex_put (type := 0) (pos := "") (fun K hK => ?_)); go_big_quiet_step (fail); refine wpQuiet_nil (hK _ ?_); clear hK K)
  (refine lex_one (by kernel_rfl) (by kernel_rfl) (by kernel_rfl) (fun K hK => ?_); go_big_quiet_step (fail); refine wpQuiet_nil (hK _ ?_); clear hK K); (refine lex_one (by kernel_rfl) (by kernel_rfl) (by kernel_rfl) (fun K hK => ?_); go_big_quiet_step (fail); refine wpQuiet_nil (hK _ ?_); clear hK K); (refine lex_one (by kernel_rfl) (by kernel_rfl) (by kernel_rfl) (fun K hK => ?_); go_big_quiet_step (fail); refine wpQuiet_nil (hK _ ?_); clear hK K)
  (refine lex_call (f := 77) (args := #[.int .u64 (v : Int)]) (v := .string (bs y3)) (by kernel_rfl) (fun _ _ h => by cases h) (by kernel_rfl) (by kernel_rfl) (fun _ => by go_simp) (fun W hW => q3.out W) (lex_put (type := 0) (pos := "") (fun K hK => ?_)); go_big_quiet_step (fail); refine wpQuiet_nil (hK _ ?_); clear hK K)
  (refine lex_one (by kernel_rfl) (by kernel_rfl) (by kernel_rfl) (fun K hK => ?_); go_big_quiet_step (fail); refine wpQuiet_nil (hK _ ?_); clear hK K); (refine lex_one (by kernel_rfl) (by kernel_rfl) (by kernel_rfl) (fun K hK => ?_); go_big_quiet_step (fail); refine wpQuiet_nil (hK _ ?_); clear hK K); (refine lex_one (by kernel_rfl) (by kernel_rfl) (by kernel_rfl) (fun K hK => ?_); go_big_quiet_step (fail); refine wpQuiet_nil (hK _ ?_); clear hK K)
  (refine lex_val (v := .int .i64 (L.length : Int)) (by kernel_rfl) (fun _ _ h => by cases h) (by kernel_rfl) (by kernel_rfl) (fun _ _ => by go_simp) (lex_put (type := 0) (pos := "") (fun K hK => ?_)); go_big_quiet_step (fail); refine wpQuiet_nil (hK _ ?_); clear hK K)
  (refine lex_one (by kernel_rfl) (by kernel_rfl) (by kernel_rfl) (fun K hK => ?_); go_big_quiet_step (fail); refine wpQuiet_nil (hK _ ?_); clear hK K)
  (refine lex_make (rowOf_keeps [UInt8.ofNat L.length]) (by kernel_rfl) (fun _ _ h => by cases h) (by kernel_rfl) rfl (make_bytes 5 [UInt8.ofNat L.length] fun W => by go_simp) ?_)
  (refine lex_turn (by kernel_rfl) rfl rfl (by kernel_rfl) (by kernel_rfl) (turn_bytes 54 9 5 Tryz.underlying54 Tryz.underlying5 Tryz.underlying9 [UInt8.ofNat L.length]) (lex_put (type := 0) (pos := "") (fun K hK => ?_)); go_big_quiet_step (fail); refine wpQuiet_nil (hK _ ?_); clear hK K)
  (refine lex_one (by kernel_rfl) (by kernel_rfl) (by kernel_rfl) (fun K hK => ?_); go_big_quiet_step (fail); refine wpQuiet_nil (hK _ ?_); clear hK K); (refine lex_one (by kernel_rfl) (by kernel_rfl) (by kernel_rfl) (fun K hK => ?_); go_big_quiet_step (fail); refine wpQuiet_nil (hK _ ?_); clear hK K)
  refine lex_nil (by kernel_rfl) (by kernel_rfl) (by kernel_rfl) ?_
  intro W1 hb1
  simp only [hideAll]
  intro y hy z hz
  clear hy hz
  simp only [Act.put, List.setIfInBounds_toArray, List.set_cons_succ, List.set_cons_zero]
  have hk1 := Blk.below hk0 hb1 hk0.lt
  have hL1 := hL0.below hb1
  have HB1 := Lib.hid (HB0.out.trans (hb1.mono HB0.out.size))
  have e1 : W1.cell? ⟨w.heap.size + 1, 1, none⟩ = some (.slice sa L.length sc) := (Blk.cell hk1 1).trans rfl
  clear g0 g1 g2 g3 g4 c0 c1 c2 c3 c4 q1 q2 q3 a1 a2 a3 a4 hb1 hb0 hk0 hL hL0 HB0 hW0
  go_wp2_with fail
  have hB2 : Blk (W1.alloc (.cells (List.replicate 12 (.string ⟨#[]⟩)).toArray 142)) W1.heap.size 142 (List.replicate 12 (.string ⟨#[]⟩)).toArray := Blk.new _ _ _
  have hb2 := HB1.out.alloc HB1.out.size (.cells (List.replicate 12 (.string ⟨#[]⟩)).toArray 142)
  have e2 : (W1.alloc (.cells (List.replicate 12 (.string ⟨#[]⟩)).toArray 142)).cell? ⟨w.heap.size + 1, 1, none⟩ = some (.slice sa L.length sc) := (Below.cell (one_alloc W1 _) (World.block_lt_of_cell? _ _ e1)).trans e1
  have hL2 := hL1.below (one_alloc W1 (.cells (List.replicate 12 (.string ⟨#[]⟩)).toArray 142))
  have hG : w.heap.size ≤ W1.heap.size := HB1.out.size
  simp only [List.replicate_succ, List.replicate_zero] at hB2 hb2 e2 hL2
  have g1 := grow_cell e2
  clear HB1 hL1 e1 hk1
  generalize W1.heap.size = G at *
  refine wp_region_led (R := GrowR) (by kernel_rfl) (by kernel_rfl) rfl (by kernel_rfl) ?_
  (refine lex_val (v := .slice (some ⟨G, 0, none⟩) 6 6) (by kernel_rfl) (fun _ _ h => by cases h) (by kernel_rfl) (by kernel_rfl) (fun _ _ => by go_simp) (lex_put (type := 0) (pos := "") (fun K hK => ?_)); go_big_quiet_step (fail); refine wpQuiet_nil (hK _ ?_); clear hK K)
  (refine lex_one (by kernel_rfl) (by kernel_rfl) (by kernel_rfl) (fun K hK => ?_); go_big_quiet_step (fail); refine wpQuiet_nil (hK _ ?_); clear hK K); (refine lex_one (by kernel_rfl) (by kernel_rfl) (by kernel_rfl) (fun K hK => ?_); go_big_quiet_step (fail); refine wpQuiet_nil (hK _ ?_); clear hK K)
  refine lex_nil (by kernel_rfl) (by kernel_rfl) (by kernel_rfl) ?_
  intro W3 hb3
  simp only [hideAll]
  obtain ⟨n, W4, hcp, hB4, hbel⟩ := copy_labels (Blk.below hB2 hb3 hB2.lt) (hL2.below hb3) h6
  have hb4 := hbel _ _ (hb2.trans (hb3.mono hb2.size)) hG
  clear hbel hB2 hb2 e2 hL2 g1 hb3
  refine wpList_copy_run _ rfl _ _ _ _ rfl _ _ rfl rfl hcp ?_
  clear hcp
  have hP6 := pad6_len L h6
  have hPl : ∀ x ∈ pad6 L, x.1.length ≤ 1048576 ∧ x.2.length ≤ 1048576 := fun x hx => by
    rcases pad6_mem hx with h | h
    · obtain ⟨i, hi⟩ := List.getElem?_of_mem h
      have := hLc i x hi
      exact ⟨this.1, this.2.1⟩
    · subst h
      simp
  clear hLc
  generalize pad6 L = X at *
  go_wp2_with (refine wpList_load_row rfl _ _ rfl G rfl 142 _ (0, 0) _ hB4 Tryz.underlying142 rfl (by rw [List.size_toArray, lbCells_len, hP6]; kernel_rfl) ?_)
  go_loopw [5, 40] (fun vs vi wr => ∃ (i : Nat) (s : List UInt8), i ≤ 6 ∧ vi = .int .i64 (i : Int) ∧ vs = .string (bs s) ∧ s = H ++ (X.take i).flatMap lbFix ∧ s.length = 26 + i * 26 ∧ Below w.heap.size w wr) (fun vs vi _ => 6 - (intOf vi).toNat)
  case atStart => exact ⟨0, H, Nat.zero_le _, rfl, rfl, by simp, by omega, hb4⟩
  clear hb4 hB4
  obtain ⟨i, s, hi, rfl, rfl, hs, hsl, hb⟩ := hrel
  rcases (show i < 6 ∨ i = 6 by omega) with hil | rfl
  · have hix : X[i]? = some X[i] := List.getElem?_eq_getElem (by omega)
    have hS := Lib.hid (show s ++ lbFix X[i] = H ++ (X.take (i + 1)).flatMap lbFix by
      rw [List.take_succ_eq_append_getElem (by omega), List.flatMap_append, hs]; simp)
    have hd : decide ((i : Int) < 6) = true := by simp; omega
    have hpl := hPl X[i] (List.getElem_mem _)
    generalize X[i] = x at *
    have hrun := fun W => run_index6 hP6 hix W
    have hfl := lbFix_len x
    have hF : lbFix x = Num.fixed x.1 12 ++ Num.fixed x.2 12 := rfl
    have q1 := Lib.hid (fun W => num_Fixed_any x.1 12 W (by omega) (by omega) (by omega))
    have q2 := Lib.hid (fun W => num_Fixed_any x.2 12 W (by omega) (by omega) (by omega))
    have f1 : (Num.fixed x.1 12).length = 13 := Num.fixed_len _ _
    have f2 : (Num.fixed x.2 12).length = 13 := Num.fixed_len _ _
    generalize Num.fixed x.1 12 = y1 at *
    generalize Num.fixed x.2 12 = y2 at *
    have a1 : ∀ W, (Op.stringOp .add (bs y1) (bs y2)).run Tryz.prog W = .ok (.string (bs (lbFix x))) W := fun W => by rw [hF]; exact run_add_bs (P := Tryz.prog) _ _ (by omega) W
    clear hF
    generalize lbFix x = y at *
    have a2 : ∀ W, (Op.stringOp .add (bs s) (bs y)).run Tryz.prog W = .ok (.string (bs (s ++ y))) W := fun W => run_add_bs (P := Tryz.prog) _ _ (by omega) W
    have hsl2 : (s ++ y).length = 26 + (i + 1) * 26 := by rw [List.length_append]; omega
    clear hs hix hpl hPl
    generalize hs2 : s ++ y = s2 at *
    have k0 : Blk (wr.alloc (.cells #[.string (bs x.1), .string (bs x.2)] 53)) wr.heap.size 53 #[.string (bs x.1), .string (bs x.2)] := Blk.new _ _ _
    have b0 := hb.alloc hb.size (.cells #[.string (bs x.1), .string (bs x.2)] 53)
    have g0 := grow_cell ((Blk.cell k0 0).trans rfl : _ = some (.string (bs x.1)))
    have g1 := grow_cell ((Blk.cell k0 1).trans rfl : _ = some (.string (bs x.2)))
    have HB := Lib.hid b0
    clear k0 b0
    go_wp2_with fail
    refine wp_region_at (R := GrowR) (by kernel_rfl) (by kernel_rfl) ?_
    (refine lex_one (by kernel_rfl) (by kernel_rfl) (by kernel_rfl) (fun K hK => ?_); go_big_quiet_step (fail); refine wpQuiet_nil (hK _ ?_); clear hK K); (refine lex_one (by kernel_rfl) (by kernel_rfl) (by kernel_rfl) (fun K hK => ?_); go_big_quiet_step (fail); refine wpQuiet_nil (hK _ ?_); clear hK K); (refine lex_one (by kernel_rfl) (by kernel_rfl) (by kernel_rfl) (fun K hK => ?_); go_big_quiet_step (fail); refine wpQuiet_nil (hK _ ?_); clear hK K)
    (refine lex_call (f := 78) (args := #[.string (bs x.1), .int .i64 12]) (v := .string (bs y1)) (by kernel_rfl) (fun _ _ h => by cases h) (by kernel_rfl) (by kernel_rfl) (fun _ => by go_simp) (fun W hW => q1.out W) (lex_put (type := 0) (pos := "") (fun K hK => ?_)); go_big_quiet_step (fail); refine wpQuiet_nil (hK _ ?_); clear hK K)
    (refine lex_one (by kernel_rfl) (by kernel_rfl) (by kernel_rfl) (fun K hK => ?_); go_big_quiet_step (fail); refine wpQuiet_nil (hK _ ?_); clear hK K); (refine lex_one (by kernel_rfl) (by kernel_rfl) (by kernel_rfl) (fun K hK => ?_); go_big_quiet_step (fail); refine wpQuiet_nil (hK _ ?_); clear hK K)
    (refine lex_call (f := 78) (args := #[.string (bs x.2), .int .i64 12]) (v := .string (bs y2)) (by kernel_rfl) (fun _ _ h => by cases h) (by kernel_rfl) (by kernel_rfl) (fun _ => by go_simp) (fun W hW => q2.out W) (lex_put (type := 0) (pos := "") (fun K hK => ?_)); go_big_quiet_step (fail); refine wpQuiet_nil (hK _ ?_); clear hK K)
    (refine lex_one (by kernel_rfl) (by kernel_rfl) (by kernel_rfl) (fun K hK => ?_); go_big_quiet_step (fail); refine wpQuiet_nil (hK _ ?_); clear hK K); (refine lex_one (by kernel_rfl) (by kernel_rfl) (by kernel_rfl) (fun K hK => ?_); go_big_quiet_step (fail); refine wpQuiet_nil (hK _ ?_); clear hK K); (refine lex_one (by kernel_rfl) (by kernel_rfl) (by kernel_rfl) (fun K hK => ?_); go_big_quiet_step (fail); refine wpQuiet_nil (hK _ ?_); clear hK K)
    refine lex_nil (by kernel_rfl) (by kernel_rfl) (by kernel_rfl) ?_
    intro w5 hb5
    simp only [hideAll]
    clear g0 g1 q1 q2
    go_wp2_with fail
    go_roundw
    case rel => exact ⟨i + 1, s2, by omega, by go_num, rfl, by rw [← hS.out], by omega, HB.out.trans (hb5.mono HB.out.size)⟩
    case measure => simp [intOf]; omega
  · rw [List.take_of_length_le (by omega)] at hs
    have hsl2 : s.length = 182 := by omega
    rw [← hs] at HO
    clear hs hsl
    have q := Lib.hid (fun W => Tail_any s (by omega) W)
    have htl := tailB_len s
    have hadd : ∀ W, (Op.stringOp .add (bs s) (bs (tailB s))).run Tryz.prog W = .ok (.string (bs O)) W := fun W => by rw [HO.out]; exact run_add_bs (P := Tryz.prog) s (tailB s) (by omega) W
    generalize tailB s = ts at *
    go_wp2_with fail
    refine (q.out _).mono ?_
    rintro e w5 ⟨rfl, hb5⟩
    go_wp2_with fail
    go_ret
    exact ⟨rfl, hb.trans (hb5.mono hb.size)⟩
end Go.Proofs.YtipdeiiipdnacaaGreat
namespace Go.Proofs.YtipdeiiipdnacaaGreat
open Go.RowKit
attribute [local go_sem] bs_toList bs_size

/-- A slice of changes. -/
def RecAt (w : World) (b o : Nat) (x : Rc) : Prop := x.ok ∧ ∃ sl, w.cell? ⟨b, o, none⟩ = some (.int .i64 x.kind) ∧ w.cell? ⟨b, o + 1, none⟩ = some sl ∧ LabsAt w sl x.labels ∧ w.cell? ⟨b, o + 2, none⟩ = some (.int .i64 x.t) ∧ w.cell? ⟨b, o + 3, none⟩ = some (.int .i64 x.u) ∧ w.cell? ⟨b, o + 4, none⟩ = some (.int .u64 (x.v : Int))
def RecsAt (w : World) (v : Value) (R : List Rc) : Prop :=
  ∃ a c, v = .slice a R.length c ∧ R.length ≤ 1048576 ∧ ∀ (i : Nat) x, R[i]? = some x → ∃ b o, a = some ⟨b, o, none⟩ ∧ RecAt w b (o + i * 5) x
theorem RecAt.below {w w' : World} {b o : Nat} {x : Rc} (h : RecAt w b o x) (hb : Below w.heap.size w w') : RecAt w' b o x := by
  obtain ⟨h0, sl, h1, h2, h3, h4, h5, h6⟩ := h
  have f : ∀ {p : Addr} {v : Value}, w.cell? p = some v → w'.cell? p = some v := fun h => (Below.cell hb (World.block_lt_of_cell? _ _ h)).trans h
  exact ⟨h0, sl, f h1, f h2, h3.below hb, f h4, f h5, f h6⟩
theorem RecsAt.below {w w' : World} {v : Value} {R : List Rc} (h : RecsAt w v R) (hb : Below w.heap.size w w') : RecsAt w' v R := by
  obtain ⟨a, c, h1, h2, h3⟩ := h
  refine ⟨a, c, h1, h2, fun i x hx => ?_⟩
  obtain ⟨b, o, h4, h5⟩ := h3 i x hx
  exact ⟨b, o, h4, h5.below hb⟩
def fits1 (x : Rc) : Prop := (0 ≤ x.kind ∧ x.kind < 256) ∧ x.labels.length ≤ 6
theorem oneB_len (x : Rc) (h : x.labels.length ≤ 6) : (oneB x).length = 186 := by
  have hb : (recBody x).length = 182 := by
    unfold recBody recHead
    have : ∀ l : List Lb, (l.flatMap lbFix).length = l.length * 26 := fun l => by
      induction l with
      | nil => rfl
      | cons y l ih => rw [List.flatMap_cons, List.length_append, lbFix_len, ih, List.length_cons]; omega
    rw [List.length_append, this, pad6_len _ h]
    simp [Num.wide_len]
  unfold oneB
  rw [List.length_append, hb, tailB_len]
def fixPut (R : List Rc) : List UInt8 := R.flatMap oneB

set_option maxRecDepth 100000 in
set_option maxHeartbeats 4000000 in
theorem fixed_put_any (R : List Rc) (v : Value) (w : World) (h : RecsAt w v R) (hR : ∀ x ∈ R, fits1 x) :
    Calls Tryz.prog 73 #[.agg #[], v] w fun e w' => e = .returned (.tuple #[.string (bs (fixPut R)), .bool true]) ∧ Below w.heap.size w w' := by
  obtain ⟨a, c, rfl, hn, hc⟩ := h
  have HC := Lib.hid hc
  clear hc
  go_enter Tryz.func73, Tryz.ntmps73
  go_wp2
  have kf : Blk (w.alloc (.cells #[] 78)) w.heap.size 78 #[] := Blk.new _ _ _
  have hb0 := one_alloc w (.cells #[] 78)
  go_loopw [6, 11] (fun vs vi wr => ∃ (i : Nat) (s : List UInt8), i ≤ R.length ∧ vi = .int .i64 (i : Int) ∧ vs = .string (bs s) ∧ s = fixPut (R.take i) ∧ s.length = i * 186 ∧ Blk wr w.heap.size 78 #[] ∧ Below w.heap.size w wr) (fun vs vi _ => R.length - (intOf vi).toNat)
  case atStart => exact ⟨0, [], Nat.zero_le _, rfl, rfl, rfl, rfl, kf, hb0⟩
  clear kf hb0
  obtain ⟨i, s, hi, rfl, rfl, hs, hsl, hk, hb⟩ := hrel
  rcases (show i < R.length ∨ i = R.length by omega) with hil | rfl
  · have hix : R[i]? = some R[i] := List.getElem?_eq_getElem hil
    have hS := Lib.hid (show s ++ oneB R[i] = fixPut (R.take (i + 1)) by
      unfold fixPut at *
      rw [List.take_succ_eq_append_getElem hil, List.flatMap_append, hs]; simp)
    have hfit := hR R[i] (List.getElem_mem _)
    obtain ⟨b, o, rfl, hA⟩ := HC.out i _ hix
    have hA := hA.below (hb.mono (Nat.le_refl _))
    generalize R[i] = x at *
    obtain ⟨hok, sl, e0, e1, hL, e2, e3, e4⟩ := hA
    have q := Lib.hid (fun (W : World) (hW : Below wr.heap.size wr W) => one_any x sl W hok (hL.below hW) hfit.1 hfit.2)
    have hol := oneB_len x hfit.2
    have a1 : ∀ W, (Op.stringOp .add (bs s) (bs (oneB x))).run Tryz.prog W = .ok (.string (bs (s ++ oneB x))) W := fun W => run_add_bs (P := Tryz.prog) _ _ (by omega) W
    have hsl2 : (s ++ oneB x).length = (i + 1) * 186 := by rw [List.length_append]; omega
    generalize oneB x = y at *
    obtain ⟨va, vc, rfl, _⟩ := hL
    clear hs hix hfit
    generalize s ++ y = s2 at *
    rw [show recV x (.slice va x.labels.length vc) = .agg #[.int .i64 x.kind, .slice va x.labels.length vc, .int .i64 x.t, .int .i64 x.u, .int .u64 (x.v : Int)] from rfl] at q
    go_wp2_with fail
    refine (q.out _ (one_alloc wr _)).mono ?_
    rintro e w1 ⟨rfl, hb1⟩
    have hb2 := (one_alloc wr (.cells #[.int .i64 x.kind, .slice va x.labels.length vc, .int .i64 x.t, .int .i64 x.u, .int .u64 (x.v : Int)] 51)).trans (hb1.mono (by simp))
    have hk2 := Blk.below hk hb2 hk.lt
    clear q hb1
    go_wp2_with fail
    go_roundw
    case rel => exact ⟨i + 1, s2, by omega, by go_num, rfl, hS.out, hsl2, hk2, hb.trans (hb2.mono hb.size)⟩
    case measure => simp [intOf]; omega
  · rw [List.take_length] at hs
    subst hs
    go_wp2_with fail
    go_ret2
    exact ⟨rfl, hb⟩
end Go.Proofs.YtipdeiiipdnacaaGreat
namespace Go.Proofs.YtipdeiiipdnacaaGreat
open Go.RowKit

/-- What holds of the world behind so many operations of the row; how it may turn. -/
structure Phases where
  ph : Nat → World → Prop
  K : World → World → Prop
  w0 : World
  start : ph 0 w0
  refl : ∀ w, K w w
  trans : ∀ {a b c}, K a b → K b c → K a c
  grow : ∀ {a b}, GrowR a b → K a b
  stay : ∀ {q a b}, ph q a → GrowR a b → ph q b

section
variable (S : Phases) (ch : List Nat) (P : Program) (ops : Array Oper)
def PW : Type := { w : World // ∃ q, S.ph q w }
variable {S} in
def PW.w (x : PW S) : World := x.1
instance : Nonempty (PW S) := ⟨⟨S.w0, 0, S.start⟩⟩

def ServesO (o : Oper) (s : Tmp → Held) (r : Held) : Prop :=
  ∀ c w, (∃ q, S.ph q w) → (∀ t ∈ o.looksAt ops, s t (c.eval (.tmp t)) w) →
    (Region.wanted o (yielded ops c.tmps) = false ∧ r undef w) ∨
    (Region.wanted o (yielded ops c.tmps) = true ∧ ∀ Q Q', (∀ x w', GrowR w w' → r x w' → Q (c.put o.dst x) w') → o.wp P c w Q Q')
def ServesC (q : Nat) (o : Oper) (s : Tmp → Held) (r : Held) : Prop :=
  ∀ c w, S.ph q w → (∀ t ∈ o.looksAt ops, s t (c.eval (.tmp t)) w) →
    Region.wanted o (yielded ops c.tmps) = true ∧ ∀ Q Q', (∀ x w', S.K w w' → S.ph (q + 1) w' → r x w' → Q (c.put o.dst x) w') → o.wp P c w Q Q'
def SvC (k : Nat) (o : Oper) (s : Tmp → Held) (r : Held) : Prop :=
  if ch.contains k then ServesC S P ops (ch.idxOf k) o s r else ServesO S P ops o s r
end

/-- One operation behind another, each served as its place asks. -/
def wpLexS (Sv : Nat → Oper → (Tmp → Held) → Held → Prop) (Kp : Held → Prop) (Fin : (Tmp → Held) → Prop) : Nat → List Oper → (Tmp → Held) → Prop
  | _, [], s => Fin s
  | k, o :: rest, s => ∃ r : Held, Kp r ∧ Sv k o s r ∧ wpLexS Sv Kp Fin (k + 1) rest (fun t => if o.dst = some t then r else s t)

theorem wpLexS_get {Sv : Nat → Oper → (Tmp → Held) → Held → Prop} {Kp : Held → Prop} {Fin : (Tmp → Held) → Prop} {ops : Array Oper} (hT : Kp fun _ _ => True) : ∀ (l : List Oper) (k : Nat) (r : Nat → Held) (s0 : Tmp → Held), (∀ j, j < l.length → l[j]? = ops[k + j]?) →
    (∀ j, j < k → Kp (r j)) → (∀ j o, j < k → ops[j]? = some o → Sv j o (slotsBy ops r s0 j) (r j)) → wpLexS Sv Kp Fin k l (slotsBy ops r s0 k) →
    ∃ r' : Nat → Held, (∀ j, Kp (r' j)) ∧ (∀ j o, j < k + l.length → ops[j]? = some o → Sv j o (slotsBy ops r' s0 j) (r' j)) ∧ Fin (slotsBy ops r' s0 (k + l.length))
  | [], k, r, s0, _, h1, h2, h => by
    have hs : ∀ m, m ≤ k → slotsBy ops (fun j => if j < k then r j else fun _ _ => True) s0 m = slotsBy ops r s0 m := by
      intro m
      induction m with
      | zero => intro _; rfl
      | succ m ih =>
        intro hm
        funext t
        unfold slotsBy
        rw [ih (by omega), if_pos (show m < k by omega)]
    refine ⟨fun j => if j < k then r j else fun _ _ => True, fun j => ?_, fun j o hj ho => ?_, ?_⟩
    · by_cases hj : j < k
      · simp only [hj, if_true]; exact h1 j hj
      · simp only [hj, if_false]; exact hT
    · have hj : j < k := by simpa using hj
      simp only [hj, if_true]
      rw [hs j (by omega)]
      exact h2 j o hj ho
    · rw [List.length_nil, Nat.add_zero, hs k (Nat.le_refl _)]
      exact h
  | o :: rest, k, r, s0, hl, h1, h2, h => by
    obtain ⟨q, hq, hsv, hrest⟩ := h
    have ho : ops[k]? = some o := by simpa using (hl 0 (by simp)).symm
    have hs : ∀ m, m ≤ k → slotsBy ops (fun j => if j = k then q else r j) s0 m = slotsBy ops r s0 m := by
      intro m
      induction m with
      | zero => intro _; rfl
      | succ m ih =>
        intro hm
        funext t
        unfold slotsBy
        rw [ih (by omega), if_neg (show m ≠ k by omega)]
    have := wpLexS_get hT rest (k + 1) (fun j => if j = k then q else r j) s0 (fun j hj => by have := hl (j + 1) (by simp; omega); simpa [Nat.add_assoc, Nat.add_comm 1 j] using this)
      (fun j hj => by
        by_cases hjk : j = k
        · simp only [hjk, if_true]; exact hq
        · simp only [hjk, if_false]; exact h1 j (by omega))
      (fun j p hj hp => by
        rw [hs j (by omega)]
        by_cases hjk : j = k
        · subst hjk
          simp only [if_true]
          rw [hp] at ho; cases ho
          exact hsv
        · simp only [hjk, if_false]; exact h2 j p (by omega) hp)
      (by
        have : slotsBy ops (fun j => if j = k then q else r j) s0 (k + 1) = fun t => if o.dst = some t then q else slotsBy ops r s0 k t := by
          funext t
          show (if (ops[k]?).bind (·.dst) = some t then _ else _) = _
          rw [hs k (Nat.le_refl _), ho]
          simp
        rw [this]
        exact hrest)
    rwa [show k + 1 + rest.length = k + (o :: rest).length by simp; omega] at this

/-- The row: each of its operations waits for the one before it. -/
def chainB (ops : Array Oper) (ch : List Nat) : Bool :=
  decide ch.Nodup && (List.range (ch.length - 1)).all fun i => match ops[ch.getD (i + 1) 0]? with
    | none => false
    | some p => p.after.toList.any fun e => Region.binds .any e && decide (e.on = ch.getD i 0)
theorem chain_of {ops : Array Oper} {ch : List Nat} (h : chainB ops ch = true) : ch.Nodup ∧ ∀ i, i + 1 < ch.length → ∃ p, ops[ch.getD (i + 1) 0]? = some p ∧ ∃ e ∈ p.after, Region.binds .any e = true ∧ e.on = ch.getD i 0 := by
  unfold chainB at h
  rw [Bool.and_eq_true, decide_eq_true_eq, List.all_eq_true] at h
  refine ⟨h.1, fun i hi => ?_⟩
  have := h.2 i (List.mem_range.2 (by omega))
  cases hp : ops[ch.getD (i + 1) 0]? with
  | none => rw [hp] at this; cases this
  | some p =>
    rw [hp] at this
    simp only [List.any_eq_true, Bool.and_eq_true, decide_eq_true_eq] at this
    obtain ⟨e, he, hb⟩ := this
    exact ⟨p, rfl, e, Array.mem_toList_iff.1 he, hb.1, hb.2⟩

/-- How far the row has come. -/
def Phase (S : Phases) (ch : List Nat) (listed : Array Bool) (w : World) : Prop :=
  ∃ q, q ≤ ch.length ∧ (∀ i, i < q → listed.getD (ch.getD i 0) false = true) ∧ (∀ i, q ≤ i → i < ch.length → listed.getD (ch.getD i 0) true = false) ∧ S.ph q w

section
variable {S : Phases} {ch : List Nat} {P : Program} {ops : Array Oper} {n m : Nat} {r : Nat → Held} {a : Act}
theorem turnsK (S : Phases) : Turns S.K := ⟨S.refl, S.trans, fun w => S.grow (Turns.drew (R := GrowR) w)⟩

theorem Phase.other {listed : Array Bool} {w w' : World} {i : Nat} (h : Phase S ch listed w) (hi : i ∉ ch) (hw : GrowR w w') : Phase S ch (listed.setIfInBounds i true) w' := by
  obtain ⟨q, hq, h1, h2, h3⟩ := h
  refine ⟨q, hq, fun j hj => getD_set_true (h1 j hj), fun j hj hl => ?_, S.stay h3 hw⟩
  have hne : i ≠ ch.getD j 0 := fun e => hi (by rw [e, List.getD_eq_getElem?_getD, List.getElem?_eq_getElem hl]; exact List.getElem_mem hl)
  rw [getD_set_ne true hne]
  exact h2 j hj hl
theorem getD_clash {l : Array Bool} {i : Nat} (h1 : l.getD i false = true) (h2 : l.getD i true = false) : False := by
  have := getD_lt h1
  simp [this] at h1 h2
  rw [h1] at h2
  cases h2
theorem Phase.here {listed : Array Bool} {w : World} {i q0 : Nat} (hC : chainB ops ch = true) (h : Phase S ch listed w) (hq0 : ch[q0]? = some i) (hi : i ∈ Region.ready .any ops listed) :
    (∀ i, i < q0 → listed.getD (ch.getD i 0) false = true) ∧ (∀ i, q0 ≤ i → i < ch.length → listed.getD (ch.getD i 0) true = false) ∧ S.ph q0 w := by
  obtain ⟨q, hq, h1, h2, h3⟩ := h
  obtain ⟨hnd, hch⟩ := chain_of hC
  have hl0 : q0 < ch.length := (List.getElem?_eq_some_iff.1 hq0).1
  have hg0 : ch.getD q0 0 = i := by rw [List.getD_eq_getElem?_getD, hq0]; rfl
  obtain ⟨hun, o, ho, hall⟩ := mem_ready.1 hi
  have e : q = q0 := by
    rcases Nat.lt_trichotomy q q0 with hlt | heq | hgt
    · obtain ⟨p, hp, e, he, hb, hon⟩ := hch (q0 - 1) (by omega)
      rw [show q0 - 1 + 1 = q0 by omega, hg0, ho] at hp
      cases hp
      have h4 := hall e he hb
      rw [hon] at h4
      exact (getD_clash h4 (h2 (q0 - 1) (by omega) (by omega))).elim
    · exact heq
    · have h4 := h1 q0 hgt
      rw [hg0] at h4
      exact (getD_clash h4 hun).elim
  subst e
  exact ⟨h1, h2, h3⟩
theorem Phase.next {listed : Array Bool} {w w' : World} {i q0 : Nat} (hC : chainB ops ch = true) (h : Phase S ch listed w) (hq0 : ch[q0]? = some i) (hi : i ∈ Region.ready .any ops listed) (hil : i < listed.size) (hw : S.ph (q0 + 1) w') : Phase S ch (listed.setIfInBounds i true) w' := by
  obtain ⟨h1, h2, h3⟩ := h.here hC hq0 hi
  obtain ⟨hnd, _⟩ := chain_of hC
  have hl0 : q0 < ch.length := (List.getElem?_eq_some_iff.1 hq0).1
  have hg0 : ch.getD q0 0 = i := by rw [List.getD_eq_getElem?_getD, hq0]; rfl
  refine ⟨q0 + 1, by omega, fun j hj => ?_, fun j hj hl => ?_, hw⟩
  · rcases (show j < q0 ∨ j = q0 by omega) with hlt | rfl
    · exact getD_set_true (h1 j hlt)
    · rw [hg0]; exact getD_set_self hil
  · have hne : i ≠ ch.getD j 0 := fun e => by
      have h5 : ch[j]? = ch[q0]? := by
        rw [hq0, e, List.getD_eq_getElem?_getD, List.getElem?_eq_getElem hl]; rfl
      have := (List.getElem?_inj hl hnd).1 h5
      omega
    rw [getD_set_ne true hne]
    exact h2 j (by omega) hl

theorem servC {i : Nat} {o : Oper} {s : Tmp → Held} (h : SvC S ch P ops i o s (r i)) : (i ∉ ch ∧ ServesO S P ops o s (r i)) ∨ ∃ q, ch[q]? = some i ∧ ServesC S P ops q o s (r i) := by
  unfold SvC at h
  by_cases hi : i ∈ ch
  · rw [if_pos (by simpa using hi)] at h
    exact .inr ⟨ch.idxOf i, by rw [List.getElem?_eq_getElem (List.idxOf_lt_length_of_mem hi), List.getElem_idxOf], h⟩
  · rw [if_neg (by simpa using hi)] at h
    exact .inl ⟨hi, h⟩

theorem wpAny_C (hC : chainB ops ch = true) (hF : Formed ops n) (hn : a.tmps.size = n) (hk : ∀ k, (r k).keeps S.K) (hS : ∀ i o, ops[i]? = some o → SvC S ch P ops i o (slotsBy ops r (fun t x _ => x = a.eval (.tmp t)) i) (r i))
    {Q : Exit → Act → World → Prop}
    (hQ : ∀ c w, S.K S.w0 w → S.ph ch.length w → c.tmps.size = a.tmps.size → c.defers = a.defers → (∀ t, slotsBy ops r (fun t x _ => x = a.eval (.tmp t)) ops.size t (c.eval (.tmp t)) w) → Q .normal c w) (hch : ∀ j ∈ ch, j < ops.size) :
    ∀ (fuel : Nat) (listed : Array Bool) (c : Act) (w : World), listed.toList.count false ≤ fuel → Along S.K ops r S.w0 a listed c w → Phase S ch listed w → wpAny P .any ops Q fuel listed c w := by
  haveI := turnsK S
  have hend : ∀ (listed : Array Bool) (c : Act) (w : World), Along S.K ops r S.w0 a listed c w → Phase S ch listed w → Region.ready .any ops listed = [] → Q .normal c w := fun listed c w h hp h0 => by
    have hall := all_listed hF h.size h0
    have hph : S.ph ch.length w := by
      obtain ⟨q, hq, h1, h2, h3⟩ := hp
      have e : q = ch.length := by
        rcases Nat.lt_or_ge q ch.length with hlt | hge
        · exfalso
          have hm : ch.getD q 0 ∈ ch := by rw [List.getD_eq_getElem?_getD, List.getElem?_eq_getElem hlt]; exact List.getElem_mem hlt
          exact getD_clash (hall _ (hch _ hm)) (h2 q (Nat.le_refl _) hlt)
        · omega
      exact e ▸ h3
    refine hQ c w h.below hph h.frame h.defers fun t => ?_
    by_cases hex : ∃ (j : Nat) (p : Oper), ops[j]? = some p ∧ p.dst = some t
    · obtain ⟨j, p, hp, hd⟩ := hex
      rw [slotsBy_of hF (lt_of_some hp) hp hd]
      exact h.done j p t hp (hall j (lt_of_some hp)) hd
    · rw [slotsBy_none fun j hj hd => hex ⟨j, by
        cases hp : ops[j]? with
        | none => rw [hp] at hd; cases hd
        | some p => rw [hp] at hd; exact ⟨p, rfl, hd⟩⟩]
      exact h.rest t fun j p hp _ hd => hex ⟨j, p, hp, hd⟩
  intro fuel
  induction fuel with
  | zero =>
    intro listed c w hc h hp
    have h0 : Region.ready .any ops listed = [] := by
      cases hr : Region.ready .any ops listed with
      | nil => rfl
      | cons i l =>
        have hi : i ∈ Region.ready .any ops listed := by rw [hr]; exact List.mem_cons_self
        obtain ⟨hun, o, ho, _⟩ := mem_ready.1 hi
        have hil : i < listed.size := by rw [h.size]; exact lt_of_some ho
        have := count_set hil hun
        omega
    exact ⟨h0, hend _ _ _ h hp h0⟩
  | succ fuel ih =>
    intro listed c w hc h hp
    refine ⟨hend _ _ _ h hp, fun i hi => ?_⟩
    obtain ⟨hun, o, ho, _⟩ := mem_ready.1 hi
    have hil : i < listed.size := by rw [h.size]; exact lt_of_some ho
    have hcnt := count_set hil hun
    unfold wpOp
    rw [ho]
    simp only []
    rcases servC (hS i o ho) with ⟨hni, hs⟩ | ⟨q, hq, hs⟩
    · have hex : ∃ q, S.ph q w := by obtain ⟨q, _, _, _, h3⟩ := hp; exact ⟨q, h3⟩
      rcases hs c w hex (h.looks hF ho hi) with ⟨h1, h2⟩ | ⟨h1, h2⟩
      · rw [h1]
        exact ih _ _ _ (by omega) (h.step hF hn hk ho hi (S.refl w) h2) (hp.other hni (Turns.refl w))
      · rw [h1]
        exact .inl (h2 _ _ fun x w' hb hr => ih _ _ _ (by omega) (h.step hF hn hk ho hi (S.grow hb) hr) (hp.other hni hb))
    · obtain ⟨h1, h2⟩ := hs c w (hp.here hC hq hi).2.2 (h.looks hF ho hi)
      rw [h1]
      exact .inl (h2 _ _ fun x w' hb hp' hr => ih _ _ _ (by omega) (h.step hF hn hk ho hi hb hr) (hp.next hC hq hi hil hp'))

theorem wpAny_ledC (hC : chainB ops ch = true) (hF : Formed ops n) (hn : a.tmps.size = n) (hk : ∀ k, (r k).keeps S.K) (hsz : ops.size = m + 1) (hl : ∀ j, j < m → ∃ k p, j < k ∧ ops[k]? = some p ∧ ∃ e ∈ p.after, Region.binds .any e = true ∧ e.on = j)
    (hS : ∀ i o, i < m → ops[i]? = some o → SvC S ch P ops i o (slotsBy ops r (fun t x _ => x = a.eval (.tmp t)) i) (r i)) {Q : Exit → Act → World → Prop}
    (hQ : ∀ c w, S.K S.w0 w → S.ph ch.length w → c.tmps.size = a.tmps.size → c.defers = a.defers → (∀ t, slotsBy ops r (fun t x _ => x = a.eval (.tmp t)) m t (c.eval (.tmp t)) w) → wpOp P ops Q m (Q .normal) c w) (hch : ∀ j ∈ ch, j < m) :
    ∀ (fuel : Nat) (listed : Array Bool) (c : Act) (w : World), listed.toList.count false ≤ fuel → Along S.K ops r S.w0 a listed c w → Phase S ch listed w → listed.getD m true = false → wpAny P .any ops Q fuel listed c w := by
  haveI := turnsK S
  have hnot : ∀ (listed : Array Bool) (c : Act) (w : World), Along S.K ops r S.w0 a listed c w → listed.getD m true = false → Region.ready .any ops listed ≠ [] := fun listed c w h hm h0 => by
    have := all_listed hF h.size h0 m (by omega)
    exact getD_clash this hm
  intro fuel
  induction fuel with
  | zero =>
    intro listed c w hc h hp hm
    exfalso
    have hml : m < listed.size := by rw [h.size]; omega
    have := count_set hml hm
    omega
  | succ fuel ih =>
    intro listed c w hc h hp hm
    refine ⟨fun h0 => absurd h0 (hnot _ _ _ h hm), fun i hi => ?_⟩
    obtain ⟨hun, o, ho, _⟩ := mem_ready.1 hi
    have hil : i < listed.size := by rw [h.size]; exact lt_of_some ho
    have hcnt := count_set hil hun
    by_cases him : i = m
    · subst him
      have hall := led_all hsz hl h hi
      have hph : S.ph ch.length w := by
        obtain ⟨q, hq, h1, h2, h3⟩ := hp
        have e : q = ch.length := by
          rcases Nat.lt_or_ge q ch.length with hlt | hge
          · exfalso
            have hm : ch.getD q 0 ∈ ch := by rw [List.getD_eq_getElem?_getD, List.getElem?_eq_getElem hlt]; exact List.getElem_mem hlt
            have hlt2 := hch _ hm
            exact getD_clash (hall (i - 1 - ch.getD q 0) _ (by omega)) (h2 q (Nat.le_refl _) hlt)
          · omega
        exact e ▸ h3
      have hfit : ∀ t, slotsBy ops r (fun t x _ => x = a.eval (.tmp t)) i t (c.eval (.tmp t)) w := fun t => by
        by_cases hex : ∃ (j : Nat) (p : Oper), j < i ∧ ops[j]? = some p ∧ p.dst = some t
        · obtain ⟨j, p, hji, hp, hd⟩ := hex
          rw [slotsBy_of hF hji hp hd]
          exact h.done j p t hp (hall (i - 1 - j) j (by omega)) hd
        · rw [slotsBy_none fun j hj hd => hex ⟨j, by
            cases hp : ops[j]? with
            | none => rw [hp] at hd; cases hd
            | some p => rw [hp] at hd; exact ⟨p, hj, rfl, hd⟩⟩]
          refine h.rest t fun j p hp hj hd => hex ⟨j, p, ?_, hp, hd⟩
          have hjs := lt_of_some hp
          have hne : j ≠ i := fun e => by
            subst e
            exact getD_clash hj hun
          omega
      refine wpOp_mono (fun c' w' hq => ?_) (hQ c w h.below hph h.frame h.defers hfit)
      have hempty : Region.ready .any ops (listed.setIfInBounds i true) = [] := by
        cases hr : Region.ready .any ops (listed.setIfInBounds i true) with
        | nil => rfl
        | cons k l =>
          exfalso
          have hk' : k ∈ Region.ready .any ops (listed.setIfInBounds i true) := by rw [hr]; exact List.mem_cons_self
          obtain ⟨hku, p, hp, _⟩ := mem_ready.1 hk'
          have hks := lt_of_some hp
          have hkl : (listed.setIfInBounds i true).getD k false = true := by
            by_cases hki : k = i
            · subst hki; exact getD_set_self hil
            · exact getD_set_true (hall (i - 1 - k) k (by omega))
          exact getD_clash hkl hku
      cases fuel with
      | zero => exact ⟨hempty, hq⟩
      | succ fuel => exact ⟨fun _ => hq, fun k hk => by rw [hempty] at hk; cases hk⟩
    · have hlt : i < m := by have := lt_of_some ho; omega
      have hm' : (listed.setIfInBounds i true).getD m true = false := by rw [getD_set_ne true him]; exact hm
      unfold wpOp
      rw [ho]
      simp only []
      rcases servC (hS i o hlt ho) with ⟨hni, hs⟩ | ⟨q, hq, hs⟩
      · have hex : ∃ q, S.ph q w := by obtain ⟨q, _, _, _, h3⟩ := hp; exact ⟨q, h3⟩
        rcases hs c w hex (h.looks hF ho hi) with ⟨h1, h2⟩ | ⟨h1, h2⟩
        · rw [h1]
          exact ih _ _ _ (by omega) (h.step hF hn hk ho hi (S.refl w) h2) (hp.other hni (Turns.refl w)) hm'
        · rw [h1]
          exact .inl (h2 _ _ fun x w' hb hr => ih _ _ _ (by omega) (h.step hF hn hk ho hi (S.grow hb) hr) (hp.other hni hb) hm')
      · obtain ⟨h1, h2⟩ := hs c w (hp.here hC hq hi).2.2 (h.looks hF ho hi)
        rw [h1]
        exact .inl (h2 _ _ fun x w' hb hp' hr => ih _ _ _ (by omega) (h.step hF hn hk ho hi hb hr) (hp.next hC hq hi hil hp') hm')
end

/-- The walk at a frame, at an operation's place. -/
def lexAtC (S : Phases) (ch : List Nat) (P : Program) (ops : Array Oper) (n : Nat) (ds : List Deferred) (F : Act → World → Prop) (k : Nat) (l : List Oper) (H : List (Tmp × Held)) (a : Act) : Prop :=
  wpLexS (SvC S ch P ops) (fun r => r.keeps S.K) (fun s => ∀ c w', S.K S.w0 w' → S.ph ch.length w' → c.tmps.size = n → c.defers = ds → (∀ t, s t (c.eval (.tmp t)) w') → F c w') k l (fits H a)

section
variable {P : Program} {id : Nat} {Q : Exit → Act → World → Prop} {a : Act} {w : World} {l : List Oper}
/-- A region with a row. -/
theorem wp_region_C (S : Phases) (ch : List Nat) (hw : S.w0 = w) (hm : P.follows .mixedOrders = true) (hB : formedB l.toArray a.tmps.size = true) (hC : chainB l.toArray ch = true) (hch : ch.all (fun j => decide (j < l.length)) = true)
    (h : lexAtC S ch P l.toArray a.tmps.size a.defers (Q .normal) 0 l [] a) : (Code.region id l.toArray true).wp P Q a w := by
  subst hw
  obtain ⟨r, h1, h2, h3⟩ := wpLexS_get (ops := l.toArray) (Kp := fun r => r.keeps S.K) (fun _ _ _ _ _ => trivial) l 0 (fun _ _ _ => True) (fun t x _ => x = a.eval (.tmp t)) (fun j _ => by simp) (fun j hj => by omega) (fun j _ hj => by omega) h
  refine wp_region_any hm ?_
  have hF := formed_of hB
  have hch' : ∀ j ∈ ch, j < l.toArray.size := fun j hj => by simpa using List.all_eq_true.1 hch j hj
  refine wpAny_C hC hF rfl h1 (fun i o ho => h2 i o (by have := lt_of_some ho; simpa using this) ho) (fun c w' hb hp hs hd ht => h3 c w' hb hp hs hd (by simpa using ht)) hch' _ _ _ _ ?_ ⟨by simp, fun j p hp hj => ?_, fun j p t hp hj => ?_, fun _ _ => rfl, rfl, rfl, S.grow (Turns.drew (R := GrowR) S.w0)⟩
    ⟨0, Nat.zero_le _, fun i hi => by omega, fun i _ hi => ?_, S.stay S.start (Turns.drew (R := GrowR) S.w0)⟩
  · rw [Array.toList_replicate]; exact Nat.le_trans List.count_le_length (by simp)
  · rw [replicate_getD] at hj; cases hj
  · rw [replicate_getD] at hj; cases hj
  · have hm : ch.getD i 0 ∈ ch := by rw [List.getD_eq_getElem?_getD, List.getElem?_eq_getElem hi]; exact List.getElem_mem hi
    have := hch' _ hm
    rw [Array.getD_eq_getD_getElem?, Array.getElem?_replicate, if_pos (by simpa using this)]; rfl

/-- A region with a row, and a last operation that all others lead to. -/
theorem wp_region_ledC (S : Phases) (ch : List Nat) {oL : Oper} (hw : S.w0 = w) (hm : P.follows .mixedOrders = true) (hB : formedB l.toArray a.tmps.size = true) (hL : l.getLast? = some oL) (hD : ledB l.toArray (l.length - 1) = true) (hC : chainB l.toArray ch = true) (hch : ch.all (fun j => decide (j < l.length - 1)) = true)
    (h : lexAtC S ch P l.toArray a.tmps.size a.defers (fun c w' => wpList P l.toArray Q [oL] c w') 0 l.dropLast [] a) : (Code.region id l.toArray true).wp P Q a w := by
  subst hw
  have hF := formed_of hB
  obtain ⟨hsz, hl⟩ := led_of hD
  have hlen : l.length = (l.length - 1) + 1 := by simpa using hsz
  obtain ⟨r, h1, h2, h3⟩ := wpLexS_get (ops := l.toArray) (Kp := fun r => r.keeps S.K) (fun _ _ _ _ _ => trivial) l.dropLast 0 (fun _ _ _ => True) (fun t x _ => x = a.eval (.tmp t)) (fun j hj => by
    rw [List.length_dropLast] at hj
    rw [List.getElem?_dropLast, Nat.zero_add]; simp [hj]) (fun j hj => by omega) (fun j _ hj => by omega) h
  rw [List.length_dropLast, Nat.zero_add] at h2 h3
  refine wp_region_any hm ?_
  have hlast : l.toArray[l.length - 1]? = some oL := by rw [← hL, List.getLast?_eq_getElem?]; simp
  have hch' : ∀ j ∈ ch, j < l.length - 1 := fun j hj => by simpa using List.all_eq_true.1 hch j hj
  refine wpAny_ledC hC hF rfl h1 hsz hl h2 (fun c w' hb hp hs hd ht => ?_) hch' _ _ _ _ ?_ ⟨by simp, fun j p hp hj => ?_, fun j p t hp hj => ?_, fun _ _ => rfl, rfl, rfl, S.grow (Turns.drew (R := GrowR) S.w0)⟩
    ⟨0, Nat.zero_le _, fun i hi => by omega, fun i _ hi => ?_, S.stay S.start (Turns.drew (R := GrowR) S.w0)⟩ ?_
  · have := h3 c w' hb hp hs hd ht
    unfold wpOp
    rw [hlast]
    exact this
  · rw [Array.toList_replicate]; exact Nat.le_trans List.count_le_length (by simp)
  · rw [replicate_getD] at hj; cases hj
  · rw [replicate_getD] at hj; cases hj
  · have hm : ch.getD i 0 ∈ ch := by rw [List.getD_eq_getElem?_getD, List.getElem?_eq_getElem hi]; exact List.getElem_mem hi
    have := hch' _ hm
    rw [Array.getD_eq_getD_getElem?, Array.getElem?_replicate, if_pos (by rw [List.size_toArray]; omega)]; rfl
  · rw [Array.getD_eq_getD_getElem?, Array.getElem?_replicate, if_pos (by rw [List.size_toArray]; omega)]; rfl
end

section
variable {S : Phases} {ch : List Nat} {P : Program} {ops : Array Oper} {n k : Nat} {ds : List Deferred} {F : Act → World → Prop} {rest : List Oper} {H : List (Tmp × Held)} {a : Act} {o : Oper}
theorem lexc_nil (h1 : a.tmps.size = n) (h2 : a.defers = ds) (h0 : apartB H = true) (h : ∀ w', S.K S.w0 w' → S.ph ch.length w' → hideAll H a w' (fun c => F c w')) : lexAtC S ch P ops n ds F k [] H a := by
  intro c w' hb hp hs hd ht
  exact hideAll_use H a w' _ h0 (h w' hb hp) c (hs.trans h1.symm) (hd.trans h2.symm) ht
theorem fits_hide {d : Tmp} {r : Held} (hd : o.dst = some d) : (fun t => if o.dst = some t then r else fits H a t) = fits ((d, r) :: H) a := by
  funext t
  rw [hd]
  unfold fits
  rw [show heldBy ((d, r) :: H) t = if d = t then some r else heldBy H t from rfl]
  by_cases hdt : d = t
  · simp [hdt]
  · simp [hdt]
theorem svO {r : Held} {s : Tmp → Held} (hi : ch.contains k = false) (h : ServesO S P ops o s r) : SvC S ch P ops k o s r := by
  unfold SvC
  rw [if_neg (by rw [hi]; simp)]
  exact h
theorem svQ {q : Nat} {r : Held} {s : Tmp → Held} (hi : ch.contains k = true) (hq : ch.idxOf k = q) (h : ServesC S P ops q o s r) : SvC S ch P ops k o s r := by
  unfold SvC
  rw [if_pos hi, hq]
  exact h
theorem lexc_skip (hi : ch.contains k = false) (hw : Region.wanted o (yielded ops a.tmps) = false) (hl : looksFree ops H o = true) (hd : writesFree H a o.dst = true) (h : lexAtC S ch P ops n ds F (k + 1) rest H (a.put o.dst undef)) : lexAtC S ch P ops n ds F k (o :: rest) H a := by
  refine ⟨fun x _ => x = undef, fun _ _ _ h _ => h, svO hi fun c w hb hs => .inl ⟨?_, rfl⟩, ?_⟩
  · rw [wanted_of_fits fun g b t hg ht => eval_of_fits hl hs t (guard_looks hg ht)]; exact hw
  · rw [fits_put hd]; exact h
theorem lexc_plain (hi : ch.contains k = false) (hw : Region.wanted o (yielded ops a.tmps) = true) (hp : plainOp o.op = true) (hl : looksFree ops H o = true) (hd : writesFree H a o.dst = true)
    (h : o.quiet P a (fun w' => ∃ x : PW S, w' = x.w) (fun a' => lexAtC S ch P ops n ds F (k + 1) rest H a')) : lexAtC S ch P ops n ds F k (o :: rest) H a := by
  obtain ⟨v, h1, h2⟩ := h
  refine ⟨fun x _ => x = v, fun _ _ _ h _ => h, svO hi fun c w hb hs => .inr ?_, by rw [fits_put hd]; exact h2⟩
  have he := eval_of_fits hl hs
  refine ⟨by rw [wanted_of_fits fun g b t hg ht => he t (guard_looks hg ht)]; exact hw, fun K Q' hK => ?_⟩
  have h3 := h1 w ⟨⟨w, hb⟩, rfl⟩
  have hne : ∀ w' f args, (execOp a.eval o).run P w ≠ .ok (.enter f args) w' := fun w' f args => plain_not_enter hp a.eval w w' f args
  unfold Oper.quietAt at h3
  unfold Oper.wp
  rw [exec_of_fits (fun cs b e => by rw [e] at hp; cases hp) he]
  generalize (execOp a.eval o).run P w = res at *
  cases res with
  | ok m w' =>
    cases m <;> simp only [Oper.quietUpon] at h3 <;> simp only [Oper.upon]
    case value u =>
      obtain ⟨rfl, rfl⟩ := h3
      exact hK _ _ (Turns.refl _) rfl
    case skip =>
      obtain ⟨rfl, rfl⟩ := h3
      exact hK _ _ (Turns.refl _) rfl
    case enter f args => exact absurd rfl (hne _ _ _)
  | halt x w' => simp only [Oper.quietUpon] at h3
theorem lexc_one (hi : ch.contains k = false) (hp : plainOp o.op = true) (hl : looksFree ops H o = true) (hd : writesFree H a o.dst = true)
    (h : ∀ K : Act → Prop, (∀ a', lexAtC S ch P ops n ds F (k + 1) rest H a' → K a') → wpQuiet P ops (fun w' => ∃ x : PW S, w' = x.w) K [o] a) : lexAtC S ch P ops n ds F k (o :: rest) H a := by
  have h' := h _ fun _ h => h
  unfold wpQuiet at h'
  by_cases hw : Region.wanted o (yielded ops a.tmps) = true
  · rw [if_pos hw] at h'; exact lexc_plain hi hw hp hl hd h'
  · rw [if_neg hw] at h'; exact lexc_skip hi (by simpa using hw) hl hd h'
theorem lexc_none (hi : ch.contains k = false) (hw : Region.wanted o (yielded ops a.tmps) = false) (hl : looksFree ops H o = true) (hd : writesFree H a o.dst = true)
    (h : ∀ K : Act → Prop, (∀ a', lexAtC S ch P ops n ds F (k + 1) rest H a' → K a') → wpQuiet P ops (fun w' => ∃ x : PW S, w' = x.w) K [o] a) : lexAtC S ch P ops n ds F k (o :: rest) H a := by
  have h' := h _ fun _ h => h
  unfold wpQuiet at h'
  rw [if_neg (by simp [hw])] at h'
  exact lexc_skip hi hw hl hd h'
/-- A value is laid into its slot: by the same step. -/
theorem lexc_put {dst : Option Tmp} {v : Value} {type : TypeId} {pos : String}
    (h : ∀ K : Act → Prop, (∀ a', lexAtC S ch P ops n ds F k rest H a' → K a') → wpQuiet P ops (fun w' => ∃ x : PW S, w' = x.w) K [⟨dst, .move (.const v), type, pos, #[], none⟩] a) : lexAtC S ch P ops n ds F k rest H (a.put dst v) := by
  have h' := h _ fun _ h => h
  unfold wpQuiet at h'
  rw [if_pos (by rfl)] at h'
  obtain ⟨u, h1, h2⟩ := h'
  have h3 := h1 S.w0 ⟨⟨S.w0, 0, S.start⟩, rfl⟩
  obtain rfl : u = v := by
    have : Oper.quietUpon P (fun w' => ∃ x : PW S, w' = x.w) S.w0 u (.ok (.value v) S.w0) := h3
    exact this.2.symm
  exact h2
theorem lexc_val {v : Value} (hi : ch.contains k = false) (hw : Region.wanted o (yielded ops a.tmps) = true) (hns : ∀ cs b, o.op ≠ .select cs b) (hl : looksFree ops H o = true) (hd : writesFree H a o.dst = true)
    (hr : ∀ w, (∃ q, S.ph q w) → (execOp a.eval o).run P w = .ok (.value v) w) (h : lexAtC S ch P ops n ds F (k + 1) rest H (a.put o.dst v)) : lexAtC S ch P ops n ds F k (o :: rest) H a := by
  refine ⟨fun x _ => x = v, fun _ _ _ h _ => h, svO hi fun c w hb hs => .inr ?_, by rw [fits_put hd]; exact h⟩
  have he := eval_of_fits hl hs
  refine ⟨by rw [wanted_of_fits fun g b t hg ht => he t (guard_looks hg ht)]; exact hw, fun K Q' hK => ?_⟩
  unfold Oper.wp
  rw [exec_of_fits hns he, hr w hb]
  exact hK _ _ (Turns.refl _) rfl
/-- An operation that makes memory: its slot is hidden. -/
theorem lexc_make {d : Tmp} {r : Held} (hi : ch.contains k = false) (hk : r.keeps S.K) (hw : Region.wanted o (yielded ops a.tmps) = true) (hns : ∀ cs b, o.op ≠ .select cs b) (hl : looksFree ops H o = true) (hd : o.dst = some d)
    (hr : ∀ w, (∃ q, S.ph q w) → ∃ x w', (execOp a.eval o).run P w = .ok (.value x) w' ∧ GrowR w w' ∧ r x w') (h : lexAtC S ch P ops n ds F (k + 1) rest ((d, r) :: H) a) : lexAtC S ch P ops n ds F k (o :: rest) H a := by
  refine ⟨r, hk, svO hi fun c w hb hs => .inr ?_, by rw [fits_hide hd]; exact h⟩
  have he := eval_of_fits hl hs
  refine ⟨by rw [wanted_of_fits fun g b t hg ht => he t (guard_looks hg ht)]; exact hw, fun K Q' hK => ?_⟩
  obtain ⟨x, w', h1, h2, h3⟩ := hr w hb
  unfold Oper.wp
  rw [exec_of_fits hns he, h1]
  exact hK _ _ h2 h3
/-- A call that makes memory alone. -/
theorem lexc_call {f : FuncId} {args : Array Value} {v : Value} (hi : ch.contains k = false) (hw : Region.wanted o (yielded ops a.tmps) = true) (hns : ∀ cs b, o.op ≠ .select cs b) (hl : looksFree ops H o = true) (hd : writesFree H a o.dst = true)
    (hr : ∀ w, (execOp a.eval o).run P w = .ok (.enter f args) w) (hc : ∀ w, (∃ q, S.ph q w) → Calls P f args w fun e w' => e = .returned v ∧ GrowR w w')
    (h : lexAtC S ch P ops n ds F (k + 1) rest H (a.put o.dst v)) : lexAtC S ch P ops n ds F k (o :: rest) H a := by
  refine ⟨fun x _ => x = v, fun _ _ _ h _ => h, svO hi fun c w hb hs => .inr ?_, by rw [fits_put hd]; exact h⟩
  have he := eval_of_fits hl hs
  refine ⟨by rw [wanted_of_fits fun g b t hg ht => he t (guard_looks hg ht)]; exact hw, fun K Q' hK => ?_⟩
  unfold Oper.wp
  rw [exec_of_fits hns he, hr]
  exact (hc w hb).mono fun e w' ⟨h1, h2⟩ => by subst h1; exact hK _ _ h2 rfl
/-- A call of the row. -/
theorem lexc_row (q : Nat) {f : FuncId} {args : Array Value} {v : Value} (hi : ch.contains k = true) (hq : ch.idxOf k = q) (hw : Region.wanted o (yielded ops a.tmps) = true) (hns : ∀ cs b, o.op ≠ .select cs b) (hl : looksFree ops H o = true) (hd : writesFree H a o.dst = true)
    (hr : ∀ w, (execOp a.eval o).run P w = .ok (.enter f args) w) (hc : ∀ w, S.ph q w → Calls P f args w fun e w' => e = .returned v ∧ S.K w w' ∧ S.ph (q + 1) w')
    (h : lexAtC S ch P ops n ds F (k + 1) rest H (a.put o.dst v)) : lexAtC S ch P ops n ds F k (o :: rest) H a := by
  refine ⟨fun x _ => x = v, fun _ _ _ h _ => h, svQ hi hq fun c w hb hs => ?_, by rw [fits_put hd]; exact h⟩
  have he := eval_of_fits hl hs
  refine ⟨by rw [wanted_of_fits fun g b t hg ht => he t (guard_looks hg ht)]; exact hw, fun K Q' hK => ?_⟩
  unfold Oper.wp
  rw [exec_of_fits hns he, hr]
  exact (hc w hb).mono fun e w' ⟨h1, h2, h3⟩ => by subst h1; exact hK _ _ h2 h3 rfl
/-- Any operation of the row, by a proof of its own; its slot is hidden. -/
theorem lexc_rowh (q : Nat) {d : Tmp} {r : Held} (hi : ch.contains k = true) (hq : ch.idxOf k = q) (hk : r.keeps S.K) (hs : ServesC S P ops q o (fits H a) r) (hd : o.dst = some d) (h : lexAtC S ch P ops n ds F (k + 1) rest ((d, r) :: H) a) : lexAtC S ch P ops n ds F k (o :: rest) H a :=
  ⟨r, hk, svQ hi hq hs, by rw [fits_hide hd]; exact h⟩
end
end Go.Proofs.YtipdeiiipdnacaaGreat
namespace Go.Proofs.YtipdeiiipdnacaaGreat
open Go.RowKit

/-- What is hidden is laid into another slot. -/
theorem lex_hmove {R : World → World → Prop} {P : Program} {ops : Array Oper} {w0 : World} {n : Nat} {ds : List Deferred} {F : Act → World → Prop} {rest : List Oper} {H : List (Tmp × Held)} {a : Act} {o : Oper} [Turns R] (d e : Tmp) {r : Held}
    (hop : o.op = .assign (.tmp d) ∨ o.op = .move (.tmp d)) (hgd : o.guard = none) (hh : heldBy H d = some r) (hk : r.keeps R) (hd : o.dst = some e)
    (h : lexAt R P ops w0 n ds F rest ((e, r) :: H) a) : lexAt R P ops w0 n ds F (o :: rest) H a := by
  refine lex_any hk (fun c w hR hf => .inr ⟨?_, fun K Q' hK => ?_⟩) hd h
  · unfold Region.wanted
    rw [hgd]
  · have h1 := hf d (by rcases hop with e | e <;> simp [Oper.looksAt, e, hgd, Op.operands])
    unfold fits at h1
    rw [hh] at h1
    unfold Oper.wp execOp
    rcases hop with e | e <;> rw [e] <;> exact hK _ _ (Turns.refl w) h1
theorem newG_keeps {w0 : World} {n : Nat} {news : List Value} : (NewCells w0 n news).keeps GrowR := by
  rintro x W W' ⟨p, c, rfl, hp, hc⟩ hR
  exact ⟨p, c, rfl, hp, fun j u hu => (Below.cell hR (World.block_lt_of_cell? _ _ (hc j u hu))).trans (hc j u hu)⟩
/-- New cells are laid: the slot is hidden. -/
theorem lex_cellsG {P : Program} {ops : Array Oper} {w0 : World} {n : Nat} {ds : List Deferred} {F : Act → World → Prop} {rest : List Oper} {H : List (Tmp × Held)} {a : Act} {o : Oper} (d mm : Nat) (news : List Value)
    (hw : Region.wanted o (yielded ops a.tmps) = true) (hns : ∀ cs b, o.op ≠ .select cs b) (hl : looksFree ops H o = true) (hd : o.dst = some d) (E : TypeId)
    (hr : ∀ w, (execOp a.eval o).run P w = .ok (.value (.slice (some ⟨w.heap.size, 0, none⟩) mm mm)) (w.alloc (.cells news.toArray E)))
    (h : lexAt GrowR P ops w0 n ds F rest ((d, NewCells w0 mm news) :: H) a) : lexAt GrowR P ops w0 n ds F (o :: rest) H a := by
  refine lex_make newG_keeps hw hns hl hd (fun w hW => ⟨_, _, hr w, one_alloc w _, w.heap.size, mm, rfl, hW.size, fun j u hu => ?_⟩) h
  rw [addr_add, World.cell?_alloc_new]
  simpa using hu
/-- A cursor's states, one behind another, by calls of a row. -/
def curPh (w0 : World) (g : Nat) (cs : List CS) (c0 : CS) (h0 : cs[0]? = some c0) (hC : Cur w0 g c0.1 c0.2) : Phases where
  ph q w := Kept w0 w (fun k => k = g) ∧ ∃ c, cs[q]? = some c ∧ Cur w g c.1 c.2
  K a b := Kept a b (fun k => k = g)
  w0 := w0
  start := ⟨Kept.refl _ _, c0, h0, hC⟩
  refl w := Kept.refl w _
  trans h k := h.trans k
  grow h := Kept.of_below h
  stay h k := ⟨h.1.trans (Kept.of_below k), by obtain ⟨c, h1, h2⟩ := h.2; exact ⟨c, h1, Blk.below h2 k h2.lt⟩⟩
theorem cur_row {P : Program} {f : FuncId} {args : Array Value} {w0 w : World} {g q : Nat} {cs : List CS} {c0 c c' : CS} {h0 : cs[0]? = some c0} {hC : Cur w0 g c0.1 c0.2} {v : Value} (hw : (curPh w0 g cs c0 h0 hC).ph q w) (hc : cs[q]? = some c) (hc' : cs[q + 1]? = some c')
    (h : Cur w g c.1 c.2 → Calls P f args w fun e w' => e = .returned v ∧ Cur w' g c'.1 c'.2 ∧ w.grownBy w' (some g)) :
    Calls P f args w fun e w' => e = .returned v ∧ (curPh w0 g cs c0 h0 hC).K w w' ∧ (curPh w0 g cs c0 h0 hC).ph (q + 1) w' := by
  obtain ⟨h1, c2, h2, h3⟩ := hw
  obtain rfl : c2 = c := by rw [hc] at h2; exact (Option.some.inj h2).symm
  refine (h h3).mono ?_
  rintro e w' ⟨rfl, h4, h5⟩
  have hk : Kept w w' (fun k => k = g) := Kept.of_grown h5 fun k e => (Option.some.inj e).symm
  exact ⟨rfl, hk, h1.trans hk, c', hc', h4⟩

/-- An operation of the row that answers nothing. -/
theorem lexc_do {S : Phases} {ch : List Nat} {P : Program} {ops : Array Oper} {n k : Nat} {ds : List Deferred} {F : Act → World → Prop} {rest : List Oper} {H : List (Tmp × Held)} {a : Act} {o : Oper} (q : Nat) (hi : ch.contains k = true) (hq : ch.idxOf k = q) (hgd : o.guard = none) (hns : ∀ cs b, o.op ≠ .select cs b) (hl : looksFree ops H o = true) (hd : o.dst = none)
    (hr : ∀ w, S.ph q w → ∃ w', (execOp a.eval o).run P w = .ok .skip w' ∧ S.K w w' ∧ S.ph (q + 1) w')
    (h : lexAtC S ch P ops n ds F (k + 1) rest H a) : lexAtC S ch P ops n ds F k (o :: rest) H a := by
  refine ⟨fun _ _ => True, fun _ _ _ _ _ => trivial, svQ hi hq fun c w hb hs => ⟨by unfold Region.wanted; rw [hgd], fun K Q' hK => ?_⟩, ?_⟩
  · have he := eval_of_fits hl hs
    obtain ⟨w', h1, h2, h3⟩ := hr w hb
    unfold Oper.wp
    rw [exec_of_fits hns he, h1]
    exact hK _ _ h2 h3 trivial
  · have : (fun t => if o.dst = some t then (fun _ _ => True : Held) else fits H a t) = fits H a := by
      funext t
      rw [hd]
      simp
    rw [this]
    exact h
def SR (g : Nat) (vl : Value) : Nat → Prop := fun k => k = g ∨ vl.ownBlock = some k
/-- A cursor's states, and a row that is appended to by the operation m of the row. -/
def rowPh (w0 : World) (g : Nat) (cs : List CS) (c0 : CS) (h0 : cs[0]? = some c0) (hC : Cur w0 g c0.1 c0.2) (vl : Value) (fin : Option Obj) (m : Nat) (hlt : ∀ k, vl.ownBlock = some k → k < w0.heap.size) : Phases where
  ph q w := Kept w0 w (SR g vl) ∧ (∃ c, cs[q]? = some c ∧ Cur w g c.1 c.2) ∧ ∀ k, vl.ownBlock = some k → (q ≤ m → w.heap[k]? = w0.heap[k]?)
  K a b := Kept a b (SR g vl) ∧ ∀ k, vl.ownBlock = some k → k < a.heap.size → b.heap[k]? = a.heap[k]? ∨ b.heap[k]? = fin
  w0 := w0
  start := ⟨Kept.refl _ _, ⟨c0, h0, hC⟩, fun _ _ _ => rfl⟩
  refl w := ⟨Kept.refl w _, fun _ _ _ => .inl rfl⟩
  trans h k := ⟨h.1.trans k.1, fun i hi hl => by
    rcases k.2 i hi (Nat.lt_of_lt_of_le hl h.1.size) with e | e
    · rw [e]; exact h.2 i hi hl
    · exact .inr e⟩
  grow h := ⟨Kept.of_below h, fun k _ hl => .inl (h.block k hl)⟩
  stay h k := ⟨h.1.trans (Kept.of_below k), (by obtain ⟨c, h1, h2⟩ := h.2.1; exact ⟨c, h1, Blk.below h2 k h2.lt⟩), fun i hi hq => (k.block i (Nat.lt_of_lt_of_le (hlt i hi) h.1.size)).trans (h.2.2 i hi hq)⟩

section
variable {P : Program} {w0 : World} {g : Nat} {cs : List CS} {c0 : CS} {h0 : cs[0]? = some c0} {hC : Cur w0 g c0.1 c0.2} {vl : Value} {fin : Option Obj} {m : Nat} {hlt : ∀ k, vl.ownBlock = some k → k < w0.heap.size}
theorem rowPh_row {f : FuncId} {args : Array Value} {w : World} {q : Nat} {c c' : CS} {v : Value} (hg : vl.ownBlock ≠ some g) (hw : (rowPh w0 g cs c0 h0 hC vl fin m hlt).ph q w) (hc : cs[q]? = some c) (hc' : cs[q + 1]? = some c') (hq : q + 1 ≤ m)
    (h : Cur w g c.1 c.2 → Calls P f args w fun e w' => e = .returned v ∧ Cur w' g c'.1 c'.2 ∧ w.grownBy w' (some g)) :
    Calls P f args w fun e w' => e = .returned v ∧ (rowPh w0 g cs c0 h0 hC vl fin m hlt).K w w' ∧ (rowPh w0 g cs c0 h0 hC vl fin m hlt).ph (q + 1) w' := by
  obtain ⟨h1, ⟨c2, h2, h3⟩, h6⟩ := hw
  obtain rfl : c2 = c := by rw [hc] at h2; exact (Option.some.inj h2).symm
  refine (h h3).mono ?_
  rintro e w' ⟨rfl, h4, h5⟩
  have hk : Kept w w' (SR g vl) := Kept.of_grown h5 fun k e => .inl (Option.some.inj e).symm
  have hr : ∀ k, vl.ownBlock = some k → k < w.heap.size → w'.heap[k]? = w.heap[k]? := fun k hk hl => h5.block k hl (fun e => hg (hk.trans e))
  exact ⟨rfl, ⟨hk, fun k hk hl => .inl (hr k hk hl)⟩, h1.trans hk, ⟨c', hc', h4⟩, fun k hk _ => (hr k hk (Nat.lt_of_lt_of_le (hlt k hk) h1.size)).trans (h6 k hk (by omega))⟩
theorem newC_keeps {n : Nat} {news : List Value} : (NewCells w0 n news).keeps (rowPh w0 g cs c0 h0 hC vl fin m hlt).K := by
  rintro x W W' ⟨p, c, rfl, hp, hc⟩ hR
  exact ⟨p, c, rfl, hp, fun j u hu => Kept.cell hR.1 (hc j u hu) fun e => by
    rw [add_block] at e
    rcases e with e | e
    · have := hC.lt
      simp only at e
      omega
    · have := hlt p e
      omega⟩
theorem appC_keeps {B : Nat} {e : TypeId} {size n : Nat} {xs : List Value} : (AppHeld w0 B e size vl.ownBlock fin n xs).keeps (rowPh w0 g cs c0 h0 hC vl fin m hlt).K := by
  rintro v W W' ⟨h1, h2⟩ hR
  rcases h2 with ⟨h2, h3⟩ | ⟨k, h2, h3⟩
  · have hs : ∀ k, vl.ownBlock = some k → W'.heap[k]? = W.heap[k]? := fun k hk => by
      rcases hR.2 k hk (owns_lt h1 (h2.trans hk)) with e | e
      · exact e
      · rw [e, h3 k hk]
    exact ⟨owns_same h1 fun k hk => hs k (h2 ▸ hk), .inl ⟨h2, fun k hk => (hs k hk).trans (h3 k hk)⟩⟩
  · exact ⟨owns_same h1 fun i hi => hR.1.block i (owns_lt h1 hi) fun e => by
      rw [h2] at hi
      obtain rfl := Option.some.inj hi
      rcases e with e | e
      · have := hC.lt; omega
      · have := hlt _ e; omega, .inr ⟨k, h2, h3⟩⟩

/-- The new cells of an append are laid: its slot is hidden. -/
theorem lexc_cells {ch : List Nat} {ops : Array Oper} {n k : Nat} {ds : List Deferred} {F : Act → World → Prop} {rest : List Oper} {H : List (Tmp × Held)} {a : Act} {o : Oper} {d : Tmp} {mm : Nat} {news : List Value}
    (hi : ch.contains k = false) (hw : Region.wanted o (yielded ops a.tmps) = true) (hns : ∀ cs b, o.op ≠ .select cs b) (hl : looksFree ops H o = true) (hd : o.dst = some d) (E : TypeId)
    (hr : ∀ w, (execOp a.eval o).run P w = .ok (.value (.slice (some ⟨w.heap.size, 0, none⟩) mm mm)) (w.alloc (.cells news.toArray E)))
    (h : lexAtC (rowPh w0 g cs c0 h0 hC vl fin m hlt) ch P ops n ds F (k + 1) rest ((d, NewCells w0 mm news) :: H) a) : lexAtC (rowPh w0 g cs c0 h0 hC vl fin m hlt) ch P ops n ds F k (o :: rest) H a := by
  refine lexc_make hi newC_keeps hw hns hl hd (fun w hW => ⟨_, _, hr w, one_alloc w _, w.heap.size, mm, rfl, ?_, fun j u hu => ?_⟩) h
  · obtain ⟨q, hk, _⟩ := hW
    exact hk.size
  · rw [addr_add, World.cell?_alloc_new]
    simpa using hu
/-- The append, its new cells in a hidden slot: the answer is hidden. -/
theorem lexc_app {ch : List Nat} {ops : Array Oper} {nn k : Nat} {ds : List Deferred} {F : Act → World → Prop} {rest : List Oper} {H : List (Tmp × Held)} {a : Act} {o : Oper} {s x d : Tmp} {t e : TypeId} {i : TypeInfo} {z : Value} {size bytes B n mm : Nat} {xs news : List Value} {c : CS}
    (hfin : fin = appendedTo w0 vl size n news) (hi : ch.contains k = true) (hq : ch.idxOf k = m) (hgd : o.guard = none) (ho : o.op = .call { callee := .builtin .append, args := #[.tmp s, .tmp x], argTypes := #[t, t] }) (hd : o.dst = some d)
    (ht : P.underlying t = some (.slice e)) (hin : P.info? e = some i) (hz : i.zero = some z) (hsize : i.size = size) (hby : i.bytes = bytes) (hzs : z.cells.size = size) (hsz : 0 < size)
    (hsn : heldBy H s = none) (hs : a.eval (.tmp s) = vl) (hx : heldBy H x = some (NewCells w0 mm news)) (hown : w0.ownsRow B e size vl n xs) (hl : news.length = mm * size)
    (h1 : ∀ u ∈ news, u.oneCell' = true) (h63 : n + mm ≤ maxLen) (hbytes : (n + mm) * bytes ≤ 140737488355328) (hbase : B ≤ w0.heap.size) (hg : vl.ownBlock ≠ some g) (hc : cs[m]? = some c) (hc' : cs[m + 1]? = some c)
    (h : lexAtC (rowPh w0 g cs c0 h0 hC vl fin m hlt) ch P ops nn ds F (k + 1) rest ((d, AppHeld w0 B e size vl.ownBlock fin (n + mm) (xs ++ news)) :: H) a) :
    lexAtC (rowPh w0 g cs c0 h0 hC vl fin m hlt) ch P ops nn ds F k (o :: rest) H a := by
  refine lexc_rowh m hi hq appC_keeps (fun cc w hW hf => ⟨?_, fun K Q' hK => ?_⟩) hd h
  · unfold Region.wanted
    rw [hgd]
  · have hes := hf s (by simp [Oper.looksAt, ho, hgd, Op.operands, Call.operands])
    have hex := hf x (by simp [Oper.looksAt, ho, hgd, Op.operands, Call.operands])
    unfold fits at hes hex
    rw [hsn] at hes
    rw [hx] at hex
    obtain ⟨p, c', hex, hp, hcl⟩ := hex
    simp only at hes
    obtain ⟨hk, ⟨c2, hc2, hC2⟩, hrow⟩ := hW
    obtain rfl : c2 = c := by rw [hc] at hc2; exact (Option.some.inj hc2).symm
    have hrow' : ∀ k, vl.ownBlock = some k → w.heap[k]? = w0.heap[k]? := fun k hk => hrow k hk (Nat.le_refl _)
    have hownw : w.ownsRow B e size vl n xs := owns_same hown hrow'
    have hap : appendedTo w vl size n news = fin := by
      rw [hfin]
      unfold appendedTo
      cases vl with
      | slice av al ac =>
        cases av with
        | none => rfl
        | some ad =>
          simp only
          rw [hrow' ad.block rfl]
      | _ => rfl
    obtain ⟨v', w', hr, h2, h3⟩ := run_append_app (P := P) t o.type e i z size bytes ht hin hz hsize hby hzs hsz B w w vl n xs hownw mm c' ⟨p, 0, none⟩ news hl hcl h1 h63 hbytes (Nat.le_trans hbase hk.size) (Turns.refl w)
    rw [hap] at h2 h3
    have hk2 : Kept w w' (SR g vl) := Kept.of_grown h2.1 fun k e => .inr e
    unfold Oper.wp execOp
    simp only [ho, resolve, invoke, builtin, Sem.run_bind, Sem.run_pure, Result.andThen_ok, List.map_toArray, List.map_cons, List.map_nil, hes, hs, hex, hr]
    refine hK _ _ ⟨hk2, fun k hk _ => h2.2 k hk⟩ ⟨hk.trans hk2, ⟨c2, hc', Blk.grown hC2 h2.1 (fun e => hg e.symm)⟩, fun k _ hq => by omega⟩ ?_
    refine ⟨h3.1, h3.2.imp id fun ⟨k, e1, e2⟩ => ⟨k, e1, Nat.le_trans hk.size e2⟩⟩
end
end Go.Proofs.YtipdeiiipdnacaaGreat
namespace Go.Proofs.YtipdeiiipdnacaaGreat
open Go.RowKit
attribute [local go_sem] bs_toList bs_size

theorem set5 {W : World} {b : Nat} {T : TypeId} {u0 u1 u2 u3 u4 : Value} (h : Blk W b T #[u0, u1, u2, u3, u4]) (v0 v1 v2 v3 v4 : Value) :
    Blk (((((W.setCell ⟨b, 0, none⟩ v0).setCell ⟨b, 1, none⟩ v1).setCell ⟨b, 2, none⟩ v2).setCell ⟨b, 3, none⟩ v3).setCell ⟨b, 4, none⟩ v4) b T #[v0, v1, v2, v3, v4] ∧
      Kept W (((((W.setCell ⟨b, 0, none⟩ v0).setCell ⟨b, 1, none⟩ v1).setCell ⟨b, 2, none⟩ v2).setCell ⟨b, 3, none⟩ v3).setCell ⟨b, 4, none⟩ v4) (fun k => k = b) :=
  ⟨Blk.set_ (Blk.set_ (Blk.set_ (Blk.set_ (Blk.set_ h 0 v0) 1 v1) 2 v2) 3 v3) 4 v4,
   Kept.of_grown (grown_trans' (grown_trans' (grown_trans' (grown_trans' (grown_set _ _ _ _) (grown_set _ _ _ _)) (grown_set _ _ _ _)) (grown_set _ _ _ _)) (grown_set _ _ _ _)) fun _ e => (Option.some.inj e).symm⟩
def i64N (n : Nat) : Int := if n < 9223372036854775808 then n else (n : Int) - 18446744073709551616
theorem i64N_wrap (n : Nat) (h : n < 18446744073709551616) : IntKind.i64.wrap (n : Int) = i64N n := by
  unfold i64N
  simp [IntKind.wrap, IntKind.bits, IntKind.signed]
  split <;> split <;> omega
theorem i64N_bd (n : Nat) (h : n < 18446744073709551616) : -9223372036854775808 ≤ i64N n ∧ i64N n ≤ 9223372036854775807 := by unfold i64N; split <;> omega
theorem i64N_u64N (t : Int) (h1 : -9223372036854775808 ≤ t) (h2 : t ≤ 9223372036854775807) : i64N (u64N t) = t := by unfold i64N u64N; split <;> omega

def fT (c : CS) : List UInt8 := if c.2 then [] else gsval (Num.getFixed c.1 12)
def fN (c : CS) : CS := Num.nxt c (Num.getFixed c.1 12)
theorem CF (g : Nat) (c : CS) (w : World) (hB : Cur w g c.1 c.2) (hs : c.1.length ≤ 1099511627776) :
    Calls Tryz.prog 76 #[.pointer (some ⟨g, 0, none⟩), .int .i64 12] w fun e w' => e = .returned (.string (bs (fT c))) ∧ Cur w' g (fN c).1 (fN c).2 ∧ w.grownBy w' (some g) := CFixed g c.1 c.2 12 w hB hs (by omega) (by omega)
theorem fT_len (c : CS) (h : c.1.length ≤ 1048576) : (fT c).length ≤ 1048576 := by
  unfold fT
  split
  · simp
  · cases hf : Num.getFixed c.1 12 with
    | none => simp [gsval]
    | some x =>
      obtain ⟨t, j⟩ := x
      have := congrArg List.length (Num.getFixed_only _ _ _ _ hf)
      unfold Num.getFixed at hf
      split at hf
      · cases hf
      · split at hf
        · cases hf
        · obtain ⟨rfl, rfl⟩ := Prod.mk.inj (Option.some.inj hf)
          simp only [gsval, List.length_take]
          omega
/-- So many labels of fixed size. -/
def fixLabs : Nat → CS → List Lb × CS
  | 0, c => ([], c)
  | n + 1, c => let r := fixLabs n (fN (fN c)); ((fT c, fT (fN c)) :: r.1, r.2)
/-- The change that bytes may be; and whether its labels could be read. -/
def fixRec (s : List UInt8) : Rc × CS :=
  let X := (s.drop 1).take 185
  let r := fixLabs (min (X.getD 24 0).toNat 6) (X.drop 25, false)
  (⟨((s.getD 0 0).toNat : Nat), r.1, i64N (Num.unw (X.take 8)), i64N (Num.unw ((X.drop 8).take 8)), Num.unw ((X.drop 16).take 8)⟩, r.2)
def recsCells (Z : List (Rc × Value)) : List Value := Z.flatMap fun z => recCells z.1 z.2
/-- Changes that were got: in a slice of their own, their labels in blocks of labels. -/
def GotAt (w : World) (v : Value) (Z : List (Rc × Value)) : Prop :=
  (∃ p c, v = .slice (some ⟨p, 0, none⟩) Z.length c ∧ ∀ j u, (recsCells Z)[j]? = some u → w.cell? ((⟨p, 0, none⟩ : Addr).add j) = some u) ∧ ∀ z ∈ Z, z.1.ok ∧ LabsOwn w z.2 z.1.labels
/-- The change that bytes begin with, or the shape: 1 short, 2 wrong. -/
def fixGet (s : List UInt8) : Option Rc × Int :=
  if s.length < 186 then (none, 1)
  else if (fixRec s).2.2 = true ∨ validE (fixRec s).1 1 ≠ 0 ∨ oneB (fixRec s).1 ≠ s.take 186 then (none, 2)
  else (some (fixRec s).1, 0)

def FixIs (s : List UInt8) (e : Ending) (w' : World) : Prop := match (fixGet s).1 with
  | none => e = .returned (.tuple #[.slice none 0 0, .string (bs s), .int .i64 (fixGet s).2])
  | some x => ∃ v sl, e = .returned (.tuple #[v, .string (bs (s.drop 186)), .int .i64 0]) ∧ GotAt w' v [(x, sl)]
set_option maxRecDepth 100000 in
set_option maxHeartbeats 4000000 in
theorem fixed_get_any (s : List UInt8) (w : World) (hl : s.length ≤ 1000000) :
    Calls Tryz.prog 71 #[.agg #[], .string (bs s)] w fun e w' => FixIs s e w' ∧ Below w.heap.size w w' := by
  by_cases h1 : s.length < 186
  · have hG : fixGet s = (none, 1) := by unfold fixGet; rw [if_pos h1]
    have HQ := Lib.hid (show ∀ w', FixIs s (.returned (.tuple #[.slice none 0 0, .string (bs s), .int .i64 1])) w' from fun w' => by unfold FixIs; rw [hG])
    have hd : decide ((s.length : Int) < 186) = true := by simp; omega
    go_enter Tryz.func71, Tryz.ntmps71
    go_wp2_with fail
    go_ret3
    exact ⟨HQ.out _, one_alloc w _⟩
  have hd : decide ((s.length : Int) < 186) = false := by simp; omega
  have hX : ((s.drop 1).take 185).length = 185 := by simp; omega
  have he1 : (bs s).extract 1 186 = bs ((s.drop 1).take 185) := by rw [bs_extract]
  have h186 : (186 : Int) ≤ (s.length : Int) := by omega
  have h0 : s[0]? = some s[0] := List.getElem?_eq_getElem (by omega)
  have hG : fixGet s = if (fixRec s).2.2 = true ∨ validE (fixRec s).1 1 ≠ 0 ∨ oneB (fixRec s).1 ≠ s.take 186 then (none, 2) else (some (fixRec s).1, 0) := by unfold fixGet; rw [if_neg h1]
  have hidx : ∀ W, (Instr.index 9 (.string (bs s)) (.int .i64 0)).run Tryz.prog W = .ok (.int .u8 (s[0].toNat : Int)) W := fun W => run_index_bs (P := Tryz.prog) 9 Tryz.underlying9 s 0 s[0] h0 .i64 W
  have hF : fixRec s = (⟨(s[0].toNat : Nat), (fixLabs (min (((s.drop 1).take 185).getD 24 0).toNat 6) (((s.drop 1).take 185).drop 25, false)).1, i64N (Num.unw (((s.drop 1).take 185).take 8)), i64N (Num.unw ((((s.drop 1).take 185).drop 8).take 8)), Num.unw ((((s.drop 1).take 185).drop 16).take 8)⟩, (fixLabs (min (((s.drop 1).take 185).getD 24 0).toNat 6) (((s.drop 1).take 185).drop 25, false)).2) := by
    unfold fixRec
    rw [List.getD_eq_getElem?_getD, h0]
    rfl
  have hkn := s[0].toNat_lt
  generalize s[0].toNat = kn at *
  have hw64 : wrap64 (kn : Int) = kn := by unfold wrap64; omega
  generalize hXe : (s.drop 1).take 185 = X at *
  go_enter Tryz.func71, Tryz.ntmps71
  go_wp2_with fail
  have hC0 : Cur ((w.alloc (.cells #[] 78)).alloc (.cells #[.string (bs X), .bool false] 120)) (w.heap.size + 1) X false := by
    have := Blk.new (w.alloc (.cells #[] 78)) 120 #[.string (bs X), .bool false]
    rwa [World.size_alloc] at this
  have hb0 : Below w.heap.size w ((w.alloc (.cells #[] 78)).alloc (.cells #[.string (bs X), .bool false] 120)) := ((Below.refl _ w).alloc (Nat.le_refl _) _).alloc (by simp) _
  have hf0 : Blk ((w.alloc (.cells #[] 78)).alloc (.cells #[.string (bs X), .bool false] 120)) w.heap.size 78 #[] := (Blk.new w _ _).alloc _
  generalize (w.alloc (.cells #[] 78)).alloc (.cells #[.string (bs X), .bool false] 120) = W0 at *
  have v1 : Num.getWide X = some (Num.unw (X.take 8), 8) := by unfold Num.getWide; rw [if_neg (by omega)]
  have v2 : Num.getWide (X.drop 8) = some (Num.unw ((X.drop 8).take 8), 8) := by unfold Num.getWide; rw [if_neg (by simp; omega)]
  have v3 : Num.getWide (X.drop 16) = some (Num.unw ((X.drop 16).take 8), 8) := by unfold Num.getWide; rw [if_neg (by simp; omega)]
  have b1 := (Num.getWide_only _ _ _ v1).1
  have b2 := (Num.getWide_only _ _ _ v2).1
  have b3 := (Num.getWide_only _ _ _ v3).1
  have k1 : ∀ W, Cur W (w.heap.size + 1) X false → _ := fun W hW => CWide_some (w.heap.size + 1) X _ 8 (X.drop 8) W hW (by omega) v1 rfl
  have k2 : ∀ W, Cur W (w.heap.size + 1) (X.drop 8) false → _ := fun W hW => CWide_some (w.heap.size + 1) (X.drop 8) _ 8 (X.drop 16) W hW (by simp; omega) v2 (by rw [List.drop_drop])
  have k3 : ∀ W, Cur W (w.heap.size + 1) (X.drop 16) false → _ := fun W hW => CWide_some (w.heap.size + 1) (X.drop 16) _ 8 (X.drop 24) W hW (by simp; omega) v3 (by rw [List.drop_drop])
  have K1 := Lib.hid k1
  have K2 := Lib.hid k2
  have K3 := Lib.hid k3
  clear k1 k2 k3 v1 v2 v3
  generalize Num.unw (X.take 8) = n1 at *
  generalize Num.unw ((X.drop 8).take 8) = n2 at *
  generalize Num.unw ((X.drop 16).take 8) = n3 at *
  have z1 := i64N_wrap n1 b1
  have z2 := i64N_wrap n2 b2
  refine wp_region_ledC (curPh W0 (w.heap.size + 1) [(X, false), (X.drop 8, false), (X.drop 16, false), (X.drop 24, false)] (X, false) rfl hC0) [3, 5, 7] rfl (by kernel_rfl) (by kernel_rfl) rfl (by kernel_rfl) (by kernel_rfl) (by kernel_rfl) ?_
  (refine lexc_one (by kernel_rfl) (by kernel_rfl) (by kernel_rfl) (by kernel_rfl) (fun K hK => ?_); go_big_quiet_step (fail); refine wpQuiet_nil (hK _ ?_); clear hK K)
  (refine lexc_val (v := .int .u8 (kn : Int)) (by kernel_rfl) (by kernel_rfl) (fun _ _ h => by cases h) (by kernel_rfl) (by kernel_rfl) (fun W hW => by show (do pure (Next.value (← Instr.index 9 (.string (bs s)) (.int .i64 0))) : Sem Next).run _ W = _; rw [Sem.run_bind, hidx W]; rfl) (lexc_put (type := 0) (pos := "") (fun K hK => ?_)); go_big_quiet_step (fail); refine wpQuiet_nil (hK _ ?_); clear hK K)
  (refine lexc_one (by kernel_rfl) (by kernel_rfl) (by kernel_rfl) (by kernel_rfl) (fun K hK => ?_); go_big_quiet_step (fail); refine wpQuiet_nil (hK _ ?_); clear hK K)
  (refine lexc_row 0 (f := 74) (args := #[.pointer (some ⟨w.heap.size + 1, 0, none⟩)]) (v := .int .u64 (n1 : Int)) (by kernel_rfl) (by kernel_rfl) (by kernel_rfl) (fun _ _ h => by cases h) (by kernel_rfl) (by kernel_rfl) (fun _ => by go_simp) (fun W hW => cur_row hW rfl rfl (K1.out W)) (lexc_put (type := 0) (pos := "") (fun K hK => ?_)); go_big_quiet_step (fail); refine wpQuiet_nil (hK _ ?_); clear hK K)
  (refine lexc_one (by kernel_rfl) (by kernel_rfl) (by kernel_rfl) (by kernel_rfl) (fun K hK => ?_); go_big_quiet_step (fail); refine wpQuiet_nil (hK _ ?_); clear hK K)
  (refine lexc_row 1 (f := 74) (args := #[.pointer (some ⟨w.heap.size + 1, 0, none⟩)]) (v := .int .u64 (n2 : Int)) (by kernel_rfl) (by kernel_rfl) (by kernel_rfl) (fun _ _ h => by cases h) (by kernel_rfl) (by kernel_rfl) (fun _ => by go_simp) (fun W hW => cur_row hW rfl rfl (K2.out W)) (lexc_put (type := 0) (pos := "") (fun K hK => ?_)); go_big_quiet_step (fail); refine wpQuiet_nil (hK _ ?_); clear hK K)
  (refine lexc_one (by kernel_rfl) (by kernel_rfl) (by kernel_rfl) (by kernel_rfl) (fun K hK => ?_); go_big_quiet_step (fail); refine wpQuiet_nil (hK _ ?_); clear hK K)
  (refine lexc_row 2 (f := 74) (args := #[.pointer (some ⟨w.heap.size + 1, 0, none⟩)]) (v := .int .u64 (n3 : Int)) (by kernel_rfl) (by kernel_rfl) (by kernel_rfl) (fun _ _ h => by cases h) (by kernel_rfl) (by kernel_rfl) (fun _ => by go_simp) (fun W hW => cur_row hW rfl rfl (K3.out W)) (lexc_put (type := 0) (pos := "") (fun K hK => ?_)); go_big_quiet_step (fail); refine wpQuiet_nil (hK _ ?_); clear hK K)
  (refine lexc_val (v := .agg #[.int .i64 (kn : Int), .slice none 0 0, .int .i64 (i64N n1), .int .i64 (i64N n2), .int .u64 (n3 : Int)]) (by kernel_rfl) (by kernel_rfl) (fun _ _ h => by cases h) (by kernel_rfl) (by kernel_rfl) (fun W hW => by skip; go_simp) (lexc_put (type := 0) (pos := "") (fun K hK => ?_)); go_big_quiet_step (fail); refine wpQuiet_nil (hK _ ?_); clear hK K)
  have hgl := hC0.lt
  refine lexc_make (d := 8) (r := fun x w1 => ∃ b, x = .pointer (some ⟨b, 0, none⟩) ∧ W0.heap.size ≤ b ∧ Blk w1 b 51 #[.int .i64 0, .slice none 0 0, .int .i64 0, .int .i64 0, .int .u64 0]) (by kernel_rfl) ?_ (by kernel_rfl) (fun _ _ h => by cases h) (by kernel_rfl) rfl (fun W hW => ?_) ?_
  · rintro x W W' ⟨b, rfl, hb, hB⟩ hk
    exact ⟨b, rfl, hb, hB.keptK hk (by omega)⟩
  · obtain ⟨q, hk, _⟩ := hW
    exact ⟨.pointer (some ⟨W.heap.size, 0, none⟩), W.alloc (.cells #[.int .i64 0, .slice none 0 0, .int .i64 0, .int .i64 0, .int .u64 0] 51), by go_simp, one_alloc W _, W.heap.size, rfl, hk.size, Blk.new _ _ _⟩
  refine lexc_nil (by kernel_rfl) (by kernel_rfl) (by kernel_rfl) ?_
  rintro W1 hK1 ⟨_, c3, hc3, hC3⟩
  obtain rfl : c3 = (X.drop 24, false) := (Option.some.inj hc3).symm
  simp only [hideAll]
  rintro x ⟨b, rfl, hbb, hB⟩
  simp only [Act.put, List.setIfInBounds_toArray, List.set_cons_succ, List.set_cons_zero]
  have hb1 : Below w.heap.size w W1 := hb0.trans (Kept.below hK1 hb0.size (fun k hk => by omega))
  have hf1 : Blk W1 w.heap.size 78 #[] := hf0.keptK hK1 (by omega)
  have hbg : b ≠ w.heap.size + 1 := by omega
  have hbw : w.heap.size + 2 ≤ b := by omega
  have c0 : W1.cell? ⟨b, 0, none⟩ = some (.int .i64 0) := (Blk.cell hB 0).trans rfl
  have c1 : W1.cell? ⟨b, 1, none⟩ = some (.slice none 0 0) := (Blk.cell hB 1).trans rfl
  have c2 : W1.cell? ⟨b, 2, none⟩ = some (.int .i64 0) := (Blk.cell hB 2).trans rfl
  have c4 : W1.cell? ⟨b, 3, none⟩ = some (.int .i64 0) := (Blk.cell hB 3).trans rfl
  have c5 : W1.cell? ⟨b, 4, none⟩ = some (.int .u64 0) := (Blk.cell hB 4).trans rfl
  have f0 := Blk.frozen hB 0
  have f1 := Blk.frozen hB 1
  have f2 := Blk.frozen hB 2
  have f3 := Blk.frozen hB 3
  have f4 := Blk.frozen hB 4
  clear hidx he1 K1 K2 K3 hK1 hC0 hb0 hf0 hbb hgl hc3
  go_wp2_with fail
  obtain ⟨hB2, hK2⟩ := set5 hB (.int .i64 (kn : Int)) (.slice none 0 0) (.int .i64 (i64N n1)) (.int .i64 (i64N n2)) (.int .u64 (n3 : Int))
  have hC4 := Blk.keptK hC3 hK2 (fun e => hbg e.symm)
  have hf2 := hf1.keptK hK2 (fun e => by omega)
  have hb2 := hb1.trans (Kept.below hK2 hb1.size (fun k hk => by omega))
  clear hB hC3 hf1 hb1 hK2 c0 c1 c2 c4 c5 f0 f1 f2 f3 f4
  generalize ((((W1.setCell ⟨b, 0, none⟩ (.int .i64 (kn : Int))).setCell ⟨b, 1, none⟩ (.slice none 0 0)).setCell ⟨b, 2, none⟩ (.int .i64 (i64N n1))).setCell ⟨b, 3, none⟩ (.int .i64 (i64N n2))).setCell ⟨b, 4, none⟩ (.int .u64 (n3 : Int)) = W2 at *
  have hd24 : X.drop 24 = X.getD 24 0 :: X.drop 25 := by
    rw [List.getD_eq_getElem?_getD, List.getElem?_eq_getElem (show 24 < X.length by omega), List.drop_eq_getElem_cons (show 24 < X.length by omega)]
    rfl
  have q := Lib.hid (CTake_some (w.heap.size + 1) (X.drop 24) 1 [X.getD 24 0] 1 (X.drop 25) W2 hC4 (by simp; omega) (by omega) (by omega) (by rw [hd24]; exact Num.getTake_some _ 1 (by simp)) (by rw [hd24]; rfl))
  have hX25 : (X.drop 25).length = 160 := by simp; omega
  clear hd24
  have hyn := (X.getD 24 0).toNat_lt
  have hy0 : ∀ W, (Instr.index 9 (.string (bs [X.getD 24 0])) (.int .i64 0)).run Tryz.prog W = .ok (.int .u8 ((X.getD 24 0).toNat : Int)) W := fun W => run_index_bs (P := Tryz.prog) 9 Tryz.underlying9 [X.getD 24 0] 0 (X.getD 24 0) rfl .i64 W
  generalize X.getD 24 0 = y at *
  go_wp2_with fail
  refine q.out.mono ?_
  rintro e W3 ⟨rfl, hC5, hg5⟩
  go_wp2_with fail
  have hmn : min (y.toNat : Int) 6 = ((min y.toNat 6 : Nat) : Int) := by omega
  rw [hmn]
  have hN6 : min y.toNat 6 ≤ 6 := Nat.min_le_right _ _
  clear hmn hy0 hyn
  generalize min y.toNat 6 = N at *
  have hk3 : Kept W2 W3 (fun k => k = w.heap.size + 1) := Kept.of_grown hg5 fun k e => (Option.some.inj e).symm
  have hB3 := hB2.keptK hk3 hbg
  have hf3 := hf2.keptK hk3 (fun e => by omega)
  have hb3 := hb2.trans (Kept.below hk3 hb2.size (fun k hk => by omega))
  clear hk3 hg5 hB2 hf2 hb2 hC4 q
  generalize hX5 : X.drop 25 = X5 at *
  go_loopw [29] (fun vi wr => ∃ (i : Nat) (L : List Lb) (c : CS) (vl : Value), i ≤ N ∧ vi = .int .i64 (i : Int) ∧ L.length = i ∧ (fixLabs N (X5, false)) = (L ++ (fixLabs (N - i) c).1, (fixLabs (N - i) c).2) ∧
      (∀ x ∈ L, x.1.length ≤ 1048576 ∧ x.2.length ≤ 1048576) ∧ c.1.length ≤ 160 ∧ Cur wr (w.heap.size + 1) c.1 c.2 ∧ Blk wr b 51 #[.int .i64 (kn : Int), vl, .int .i64 (i64N n1), .int .i64 (i64N n2), .int .u64 (n3 : Int)] ∧
      wr.ownsRow w.heap.size 53 2 vl L.length (lbCells L) ∧ Blk wr w.heap.size 78 #[] ∧ Below w.heap.size w wr) (fun vi _ => N - (intOf vi).toNat)
  case atStart => exact ⟨0, [], (X5, false), .slice none 0 0, Nat.zero_le _, rfl, rfl, by simp, by simp, by simp only; omega, hC5, hB3, World.ownsRow_nil _ _ _ _, hf3, hb3⟩
  clear hC5 hB3 hf3 hb3
  obtain ⟨_, L, c, vl, hi, rfl, rfl, hfx, hLb, hcl, hC, hB, hrow, hf, hb⟩ := hrel
  have hvg : vl.ownBlock ≠ some (w.heap.size + 1) := fun e => by
    have h1 := tag_row hrow e
    rw [tag_blk hC] at h1
    simp at h1
  have hvb : vl.ownBlock ≠ some b := fun e => by
    have h1 := tag_row hrow e
    rw [tag_blk hB] at h1
    simp at h1
  have hvf : vl.ownBlock ≠ some w.heap.size := fun e => by
    have h1 := tag_row hrow e
    rw [tag_blk hf] at h1
    simp at h1
  rcases (show L.length < N ∨ L.length = N by omega) with hil | hil
  · obtain ⟨i0, hin, hz0, hz1, hz2⟩ := info_parts (show (Tryz.prog.info? 53).map (fun i => (i.zero, i.size, i.bytes)) = some (some (.agg #[.string ⟨#[]⟩, .string ⟨#[]⟩]), 2, 32) by kernel_rfl)
    have hfx2 : fixLabs N (X5, false) = (L ++ [(fT c, fT (fN c))] ++ (fixLabs (N - (L.length + 1)) (fN (fN c))).1, (fixLabs (N - (L.length + 1)) (fN (fN c))).2) := by
      rw [hfx, show N - L.length = N - (L.length + 1) + 1 by omega]
      conv => lhs; unfold fixLabs
      simp
    have hc2l : (fN (fN c)).1.length ≤ 160 := Nat.le_trans (nxt_len _ _) (Nat.le_trans (nxt_len _ _) hcl)
    have hc1l : (fN c).1.length ≤ 160 := Nat.le_trans (nxt_len _ _) hcl
    have t1 : (fT c).length ≤ 1048576 := fT_len c (by omega)
    have t2 : (fT (fN c)).length ≤ 1048576 := fT_len (fN c) (by omega)
    have k1 := Lib.hid (fun W hW => CF (w.heap.size + 1) c W hW (by omega))
    have k2 := Lib.hid (fun W hW => CF (w.heap.size + 1) (fN c) W hW (by omega))
    have hltr : ∀ k, vl.ownBlock = some k → k < wr.heap.size := fun k hk => owns_lt hrow hk
    have HS := Lib.hid hfx2
    clear hfx hfx2
    generalize hx1 : fN c = c1 at *
    generalize fN c1 = c2 at *
    generalize fT c = a1 at *
    generalize fT c1 = a2 at *
    obtain ⟨sa, sc, rfl⟩ := row_form hrow
    have hcell : ∀ x : PW (rowPh wr (w.heap.size + 1) [c, c1, c2, c2] c rfl hC (.slice sa L.length sc) (appendedTo wr (.slice sa L.length sc) 2 L.length [.string (bs a1), .string (bs a2)]) 2 hltr), x.w.cell? ⟨b, 1, none⟩ = some (.slice sa L.length sc) := fun x => by
      obtain ⟨q, hk, _⟩ := x.2
      exact ((hB.keptK hk (fun e => e.elim hbg (fun e => hvb e))).cell 1).trans rfl
    go_wp2_with fail
    refine wp_region_ledC (rowPh wr (w.heap.size + 1) [c, c1, c2, c2] c rfl hC (.slice sa L.length sc) (appendedTo wr (.slice sa L.length sc) 2 L.length [.string (bs a1), .string (bs a2)]) 2 hltr) [2, 3, 6] rfl (by kernel_rfl) (by kernel_rfl) rfl (by kernel_rfl) (by kernel_rfl) (by kernel_rfl) ?_
    (refine lexc_one (by kernel_rfl) (by kernel_rfl) (by kernel_rfl) (by kernel_rfl) (fun K hK => ?_); go_big_quiet_step (fail); refine wpQuiet_nil (hK _ ?_); clear hK K); (refine lexc_one (by kernel_rfl) (by kernel_rfl) (by kernel_rfl) (by kernel_rfl) (fun K hK => ?_); go_big_quiet_step (fail); refine wpQuiet_nil (hK _ ?_); clear hK K)
    (refine lexc_row 0 (f := 76) (args := #[.pointer (some ⟨w.heap.size + 1, 0, none⟩), .int .i64 12]) (v := .string (bs a1)) (by kernel_rfl) (by kernel_rfl) (by kernel_rfl) (fun _ _ h => by cases h) (by kernel_rfl) (by kernel_rfl) (fun _ => by go_simp) (fun W hW => rowPh_row hvg hW rfl rfl (by omega) (k1.out W)) (lexc_put (type := 0) (pos := "") (fun K hK => ?_)); go_big_quiet_step (fail); refine wpQuiet_nil (hK _ ?_); clear hK K)
    (refine lexc_row 1 (f := 76) (args := #[.pointer (some ⟨w.heap.size + 1, 0, none⟩), .int .i64 12]) (v := .string (bs a2)) (by kernel_rfl) (by kernel_rfl) (by kernel_rfl) (fun _ _ h => by cases h) (by kernel_rfl) (by kernel_rfl) (fun _ => by go_simp) (fun W hW => rowPh_row hvg hW rfl rfl (by omega) (k2.out W)) (lexc_put (type := 0) (pos := "") (fun K hK => ?_)); go_big_quiet_step (fail); refine wpQuiet_nil (hK _ ?_); clear hK K)
    (refine lexc_val (v := .agg #[.string (bs a1), .string (bs a2)]) (by kernel_rfl) (by kernel_rfl) (fun _ _ h => by cases h) (by kernel_rfl) (by kernel_rfl) (fun W hW => by skip; go_simp) (lexc_put (type := 0) (pos := "") (fun K hK => ?_)); go_big_quiet_step (fail); refine wpQuiet_nil (hK _ ?_); clear hK K)
    refine lexc_cells (d := 36) (mm := 1) (news := [.string (bs a1), .string (bs a2)]) (by kernel_rfl) (by kernel_rfl) (fun _ _ h => by cases h) (by kernel_rfl) rfl 53 (fun W => by go_simp) ?_
    refine lexc_app (d := 37) (s := 32) (x := 36) (c := c2) rfl (by kernel_rfl) (by kernel_rfl) rfl rfl rfl Tryz.underlying48 hin hz0 hz1 hz2 rfl (by decide) rfl rfl rfl hrow rfl (by simp [Value.oneCell']) (by unfold maxLen; omega) (by omega) hb.size hvg rfl rfl ?_
    (refine lexc_one (by kernel_rfl) (by kernel_rfl) (by kernel_rfl) (by kernel_rfl) (fun K hK => ?_); go_big_quiet_step (fail); refine wpQuiet_nil (hK _ ?_); clear hK K)
    refine lexc_nil (by kernel_rfl) (by kernel_rfl) (by kernel_rfl) ?_
    rintro w5 hK5 ⟨hk5, ⟨cc, hcc, hC5⟩, _⟩
    obtain rfl : cc = c2 := (Option.some.inj hcc).symm
    simp only [hideAll]
    rintro v' ⟨hown, _⟩ z _
    simp only [Act.put, List.setIfInBounds_toArray, List.set_cons_succ, List.set_cons_zero]
    obtain ⟨sa', sc', rfl⟩ := row_form hown
    have hB5 := hB.keptK hk5 (fun e => e.elim hbg (fun e => hvb e))
    have hf5 := hf.keptK hk5 (fun e => e.elim (fun e => by omega) (fun e => hvf e))
    have hb5 := hb.trans (Kept.below hk5 hb.size (fun k hk => by
      rcases hk with e | e
      · omega
      · exact (hrow.lt k e).1))
    have e1 : w5.cell? ⟨b, 1, none⟩ = some (.slice sa L.length sc) := (Blk.cell hB5 1).trans rfl
    have f1 := Blk.frozen hB5 1
    have hnb : (Value.slice sa' (L.length + 1) sc').ownBlock ≠ some b := fun e => by
      have h1 := tag_row hown e
      rw [tag_blk hB5] at h1
      simp at h1
    have hk6 : Kept w5 (w5.setCell ⟨b, 1, none⟩ (.slice sa' (L.length + 1) sc')) (fun k => k = b) := Kept.of_grown (grown_set _ _ _ _) fun k e => (Option.some.inj e).symm
    have hB6 : Blk (w5.setCell ⟨b, 1, none⟩ (.slice sa' (L.length + 1) sc')) b 51 #[.int .i64 (kn : Int), .slice sa' (L.length + 1) sc', .int .i64 (i64N n1), .int .i64 (i64N n2), .int .u64 (n3 : Int)] := Blk.set_ hB5 1 _
    have hC6 := Blk.keptK hC5 hk6 (fun e => hbg e.symm)
    have hf6 := hf5.keptK hk6 (fun e => by omega)
    have hr6 := ownsRow_kept hown hk6 (fun k e e2 => hnb (e2 ▸ e))
    have hb6 := hb5.trans (Kept.below hk6 hb5.size (fun k hk => by omega))
    have hrl : lbCells (L ++ [(a1, a2)]) = lbCells L ++ [.string (bs a1), .string (bs a2)] := by rw [lbCells_append]; rfl
    clear k1 k2 hcell hK5 hk5 hC5 hown hB5 hf5 hb5 hk6 hrow hB hC hf hb hltr hvg hvb hvf hnb
    go_wp2_with fail
    go_roundw
    case rel =>
      refine ⟨L.length + 1, L ++ [(a1, a2)], cc, _, by omega, by go_num, by simp, HS.out, ?_, hc2l, hC6, hB6, ?_, hf6, hb6⟩
      · intro x hx
        rcases List.mem_append.1 hx with h | h
        · exact hLb x h
        · obtain rfl := List.mem_singleton.1 h
          exact ⟨t1, t2⟩
      · rw [hrl, List.length_append]
        exact hr6
    case measure => simp [intOf]; omega
  · subst hil
    rw [Nat.sub_self] at hfx
    have hfx2 : fixLabs L.length (X5, false) = (L, c) := by rw [hfx]; unfold fixLabs; simp
    rw [hfx2] at hF
    clear hfx hfx2 hX5
    have hL6 : L.length ≤ 6 := by omega
    have hLo := labsOwn_row hrow (by omega) hLb
    have c1' := hC.c1
    have g1 := grow_cell c1'
    have d0 : wr.cell? ⟨b, 0, none⟩ = some (.int .i64 (kn : Int)) := (Blk.cell hB 0).trans rfl
    have d1 : wr.cell? ⟨b, 1, none⟩ = some vl := (Blk.cell hB 1).trans rfl
    have d2 : wr.cell? ⟨b, 2, none⟩ = some (.int .i64 (i64N n1)) := (Blk.cell hB 2).trans rfl
    have d3 : wr.cell? ⟨b, 3, none⟩ = some (.int .i64 (i64N n2)) := (Blk.cell hB 3).trans rfl
    have d4 : wr.cell? ⟨b, 4, none⟩ = some (.int .u64 (n3 : Int)) := (Blk.cell hB 4).trans rfl
    obtain ⟨va, vc, rfl⟩ := row_form hrow
    have g2 := grow_cell d0
    have g3 := grow_cell d1
    have g4 := grow_cell d2
    have g5 := grow_cell d3
    have g6 := grow_cell d4
    have hok : (⟨kn, L, i64N n1, i64N n2, n3⟩ : Rc).ok := by
      have e1 := i64N_bd n1 b1
      have e2 := i64N_bd n2 b2
      exact ⟨by simp only; omega, by simp only; omega, e1.1, e1.2, e2.1, e2.2, b3⟩
    rw [hF] at hG
    simp only at hG
    have HW := Lib.hid (show ∀ w', fixGet s = (none, 2) → FixIs s (.returned (.tuple #[.slice none 0 0, .string (bs s), .int .i64 2])) w' from fun w' e => by unfold FixIs; rw [e])
    have HT := Lib.hid (show ∀ w' v sl, fixGet s = (some ⟨kn, L, i64N n1, i64N n2, n3⟩, 0) → GotAt w' v [(⟨kn, L, i64N n1, i64N n2, n3⟩, sl)] → FixIs s (.returned (.tuple #[v, .string (bs (s.drop 186)), .int .i64 0])) w' from fun w' v sl e h => by unfold FixIs; rw [e]; exact ⟨v, sl, rfl, h⟩)
    have qV := Lib.hid (fun (W : World) (hW : GrowR wr W) => Valid_any ⟨kn, L, i64N n1, i64N n2, n3⟩ (.slice va L.length vc) 1 W hok (hLo.1.below hW) (by omega) (by omega))
    have qO := Lib.hid (fun (W : World) (hW : GrowR wr W) => one_any ⟨kn, L, i64N n1, i64N n2, n3⟩ (.slice va L.length vc) W hok (hLo.1.below hW) ⟨by simp only; omega, by simp only; omega⟩ hL6)
    rw [show recV ⟨kn, L, i64N n1, i64N n2, n3⟩ (.slice va L.length vc) = .agg #[.int .i64 (kn : Int), .slice va L.length vc, .int .i64 (i64N n1), .int .i64 (i64N n2), .int .u64 (n3 : Int)] from rfl] at qV qO
    generalize hxx : (⟨kn, L, i64N n1, i64N n2, n3⟩ : Rc) = xx at *
    generalize oneB xx = ob at *
    have HG := Lib.hid hG
    clear hG hF
    cases hcb : c.2 with
    | true =>
      have HE := Lib.hid (HW.out · (by rw [HG.out, if_pos (.inl hcb)]))
      clear HG HW HT qV qO
      rw [hcb] at g1
      go_wp2_with fail
      refine wp_region_at (R := GrowR) (by kernel_rfl) (by kernel_rfl) ?_
      (refine lex_one (by kernel_rfl) (by kernel_rfl) (by kernel_rfl) (fun K hK => ?_); go_big_quiet_step (fail); refine wpQuiet_nil (hK _ ?_); clear hK K); (refine lex_one (by kernel_rfl) (by kernel_rfl) (by kernel_rfl) (fun K hK => ?_); go_big_quiet_step (fail); refine wpQuiet_nil (hK _ ?_); clear hK K); (refine lex_one (by kernel_rfl) (by kernel_rfl) (by kernel_rfl) (fun K hK => ?_); go_big_quiet_step (fail); refine wpQuiet_nil (hK _ ?_); clear hK K)
      (refine lex_none (by kernel_rfl) (by kernel_rfl) (by kernel_rfl) (fun K hK => ?_); go_big_quiet_step (fail); refine wpQuiet_nil (hK _ ?_); clear hK K); (refine lex_none (by kernel_rfl) (by kernel_rfl) (by kernel_rfl) (fun K hK => ?_); go_big_quiet_step (fail); refine wpQuiet_nil (hK _ ?_); clear hK K); (refine lex_none (by kernel_rfl) (by kernel_rfl) (by kernel_rfl) (fun K hK => ?_); go_big_quiet_step (fail); refine wpQuiet_nil (hK _ ?_); clear hK K)
      (refine lex_one (by kernel_rfl) (by kernel_rfl) (by kernel_rfl) (fun K hK => ?_); go_big_quiet_step (fail); refine wpQuiet_nil (hK _ ?_); clear hK K); (refine lex_one (by kernel_rfl) (by kernel_rfl) (by kernel_rfl) (fun K hK => ?_); go_big_quiet_step (fail); refine wpQuiet_nil (hK _ ?_); clear hK K)
      (refine lex_none (by kernel_rfl) (by kernel_rfl) (by kernel_rfl) (fun K hK => ?_); go_big_quiet_step (fail); refine wpQuiet_nil (hK _ ?_); clear hK K); (refine lex_none (by kernel_rfl) (by kernel_rfl) (by kernel_rfl) (fun K hK => ?_); go_big_quiet_step (fail); refine wpQuiet_nil (hK _ ?_); clear hK K); (refine lex_none (by kernel_rfl) (by kernel_rfl) (by kernel_rfl) (fun K hK => ?_); go_big_quiet_step (fail); refine wpQuiet_nil (hK _ ?_); clear hK K); (refine lex_none (by kernel_rfl) (by kernel_rfl) (by kernel_rfl) (fun K hK => ?_); go_big_quiet_step (fail); refine wpQuiet_nil (hK _ ?_); clear hK K); (refine lex_none (by kernel_rfl) (by kernel_rfl) (by kernel_rfl) (fun K hK => ?_); go_big_quiet_step (fail); refine wpQuiet_nil (hK _ ?_); clear hK K); (refine lex_none (by kernel_rfl) (by kernel_rfl) (by kernel_rfl) (fun K hK => ?_); go_big_quiet_step (fail); refine wpQuiet_nil (hK _ ?_); clear hK K)
      (refine lex_one (by kernel_rfl) (by kernel_rfl) (by kernel_rfl) (fun K hK => ?_); go_big_quiet_step (fail); refine wpQuiet_nil (hK _ ?_); clear hK K)
      refine lex_nil (by kernel_rfl) (by kernel_rfl) (by kernel_rfl) ?_
      intro w5 hb5
      simp only [hideAll]
      go_wp2_with fail
      go_ret3
      exact ⟨HE.out _, hb.trans (hb5.mono hb.size)⟩
    | false =>
      rw [hcb] at g1
      generalize hve : validE xx 1 = ve at *
      by_cases h0v : ve = 0
      · subst h0v
        have he2 : (bs s).extract 0 186 = bs (s.take 186) := by rw [bs_extract]; rfl
        have he3 : (bs s).extract 186 s.length = bs (s.drop 186) := by rw [bs_extract, List.take_of_length_le (by simp)]
        generalize hst : s.take 186 = st at *
        by_cases hoe : ob = st
        · have HE := Lib.hid (HT.out · · · (by rw [HG.out, if_neg (by simp [hcb, hoe])]))
          have hoz : (ob == st) = true := by simpa using hoe
          clear HG HW HT
          go_wp2_with fail
          refine wp_region_at (R := GrowR) (by kernel_rfl) (by kernel_rfl) ?_
          (refine lex_one (by kernel_rfl) (by kernel_rfl) (by kernel_rfl) (fun K hK => ?_); go_big_quiet_step (fail); refine wpQuiet_nil (hK _ ?_); clear hK K); (refine lex_one (by kernel_rfl) (by kernel_rfl) (by kernel_rfl) (fun K hK => ?_); go_big_quiet_step (fail); refine wpQuiet_nil (hK _ ?_); clear hK K); (refine lex_one (by kernel_rfl) (by kernel_rfl) (by kernel_rfl) (fun K hK => ?_); go_big_quiet_step (fail); refine wpQuiet_nil (hK _ ?_); clear hK K); (refine lex_one (by kernel_rfl) (by kernel_rfl) (by kernel_rfl) (fun K hK => ?_); go_big_quiet_step (fail); refine wpQuiet_nil (hK _ ?_); clear hK K)
          (refine lex_call (f := 23) (args := #[.agg #[.int .i64 (kn : Int), .slice va L.length vc, .int .i64 (i64N n1), .int .i64 (i64N n2), .int .u64 (n3 : Int)], .int .i64 1]) (v := .int .i64 0) (by kernel_rfl) (fun _ _ h => by cases h) (by kernel_rfl) (by kernel_rfl) (fun _ => by go_simp) (fun W hW => qV.out W hW) (lex_put (type := 0) (pos := "") (fun K hK => ?_)); go_big_quiet_step (fail); refine wpQuiet_nil (hK _ ?_); clear hK K)
          (refine lex_one (by kernel_rfl) (by kernel_rfl) (by kernel_rfl) (fun K hK => ?_); go_big_quiet_step (fail); refine wpQuiet_nil (hK _ ?_); clear hK K); (refine lex_one (by kernel_rfl) (by kernel_rfl) (by kernel_rfl) (fun K hK => ?_); go_big_quiet_step (fail); refine wpQuiet_nil (hK _ ?_); clear hK K); (refine lex_one (by kernel_rfl) (by kernel_rfl) (by kernel_rfl) (fun K hK => ?_); go_big_quiet_step (fail); refine wpQuiet_nil (hK _ ?_); clear hK K); (refine lex_one (by kernel_rfl) (by kernel_rfl) (by kernel_rfl) (fun K hK => ?_); go_big_quiet_step (fail); refine wpQuiet_nil (hK _ ?_); clear hK K); (refine lex_one (by kernel_rfl) (by kernel_rfl) (by kernel_rfl) (fun K hK => ?_); go_big_quiet_step (fail); refine wpQuiet_nil (hK _ ?_); clear hK K)
          (refine lex_call (f := 72) (args := #[.agg #[], .agg #[.int .i64 (kn : Int), .slice va L.length vc, .int .i64 (i64N n1), .int .i64 (i64N n2), .int .u64 (n3 : Int)]]) (v := .string (bs ob)) (by kernel_rfl) (fun _ _ h => by cases h) (by kernel_rfl) (by kernel_rfl) (fun _ => by go_simp) (fun W hW => qO.out W hW) (lex_put (type := 0) (pos := "") (fun K hK => ?_)); go_big_quiet_step (fail); refine wpQuiet_nil (hK _ ?_); clear hK K)
          (refine lex_one (by kernel_rfl) (by kernel_rfl) (by kernel_rfl) (fun K hK => ?_); go_big_quiet_step (fail); refine wpQuiet_nil (hK _ ?_); clear hK K)
          (refine lex_val (v := .string (bs st)) (by kernel_rfl) (fun _ _ h => by cases h) (by kernel_rfl) (by kernel_rfl) (fun _ _ => by go_simp) (lex_put (type := 0) (pos := "") (fun K hK => ?_)); go_big_quiet_step (fail); refine wpQuiet_nil (hK _ ?_); clear hK K)
          (refine lex_one (by kernel_rfl) (by kernel_rfl) (by kernel_rfl) (fun K hK => ?_); go_big_quiet_step (fail); refine wpQuiet_nil (hK _ ?_); clear hK K); (refine lex_one (by kernel_rfl) (by kernel_rfl) (by kernel_rfl) (fun K hK => ?_); go_big_quiet_step (fail); refine wpQuiet_nil (hK _ ?_); clear hK K)
          refine lex_nil (by kernel_rfl) (by kernel_rfl) (by kernel_rfl) ?_
          intro w5 hb5
          simp only [hideAll]
          have f : ∀ {p : Addr} {v : Value}, wr.cell? p = some v → w5.cell? p = some v := fun h => (Below.cell hb5 (World.block_lt_of_cell? _ _ h)).trans h
          have g2 := grow_cell (f d0)
          have g3 := grow_cell (f d1)
          have g4 := grow_cell (f d2)
          have g5 := grow_cell (f d3)
          have g6 := grow_cell (f d4)
          have h186' : ¬ (s.length : Int) < 186 := by omega
          go_wp2_with fail
          refine wp_region_at (R := GrowR) (by kernel_rfl) (by kernel_rfl) ?_
          (refine lex_one (by kernel_rfl) (by kernel_rfl) (by kernel_rfl) (fun K hK => ?_); go_big_quiet_step (fail); refine wpQuiet_nil (hK _ ?_); clear hK K)
          refine lex_cellsG 57 1 [.int .i64 (kn : Int), .slice va L.length vc, .int .i64 (i64N n1), .int .i64 (i64N n2), .int .u64 (n3 : Int)] (by kernel_rfl) (fun _ _ h => by cases h) (by kernel_rfl) rfl 51 (fun W => by go_simp) ?_
          (refine lex_one (by kernel_rfl) (by kernel_rfl) (by kernel_rfl) (fun K hK => ?_); go_big_quiet_step (fail); refine wpQuiet_nil (hK _ ?_); clear hK K)
          (refine lex_val (v := .string (bs (s.drop 186))) (by kernel_rfl) (fun _ _ h => by cases h) (by kernel_rfl) (by kernel_rfl) (fun _ _ => by go_simp) (lex_put (type := 0) (pos := "") (fun K hK => ?_)); go_big_quiet_step (fail); refine wpQuiet_nil (hK _ ?_); clear hK K)
          refine lex_hmove 57 4 (.inl rfl) rfl rfl newG_keeps rfl ?_
          (refine lex_one (by kernel_rfl) (by kernel_rfl) (by kernel_rfl) (fun K hK => ?_); go_big_quiet_step (fail); refine wpQuiet_nil (hK _ ?_); clear hK K); (refine lex_one (by kernel_rfl) (by kernel_rfl) (by kernel_rfl) (fun K hK => ?_); go_big_quiet_step (fail); refine wpQuiet_nil (hK _ ?_); clear hK K)
          refine lex_nil (by kernel_rfl) (by kernel_rfl) (by kernel_rfl) ?_
          intro w6 hb6
          simp only [hideAll]
          rintro v4 ⟨p4, c4, rfl, _, hcl4⟩ z _
          simp only [Act.put, List.setIfInBounds_toArray, List.set_cons_succ, List.set_cons_zero]
          go_wp2_with fail
          go_ret3
          refine ⟨HE.out _ _ (.slice va L.length vc) ⟨⟨p4, c4, rfl, ?_⟩, fun z hz => ?_⟩, hb.trans ((hb5.trans (hb6.mono hb5.size)).mono hb.size)⟩
          · rw [show recsCells [(xx, .slice va L.length vc)] = [.int .i64 (kn : Int), .slice va L.length vc, .int .i64 (i64N n1), .int .i64 (i64N n2), .int .u64 (n3 : Int)] from by rw [← hxx]; rfl]
            exact hcl4
          · obtain rfl := List.mem_singleton.1 hz
            refine ⟨hok, ?_⟩
            have := (hLo.below hb5).below hb6
            rw [← hxx]
            exact this
        · have HE := Lib.hid (HW.out · (by rw [HG.out, if_pos (.inr (.inr hoe))]))
          have hoz : (ob != st) = true := by simpa using hoe
          have hoz2 : (ob == st) = false := by simpa using hoe
          clear HG HW HT
          go_wp2_with fail
          refine wp_region_at (R := GrowR) (by kernel_rfl) (by kernel_rfl) ?_
          (refine lex_one (by kernel_rfl) (by kernel_rfl) (by kernel_rfl) (fun K hK => ?_); go_big_quiet_step (fail); refine wpQuiet_nil (hK _ ?_); clear hK K); (refine lex_one (by kernel_rfl) (by kernel_rfl) (by kernel_rfl) (fun K hK => ?_); go_big_quiet_step (fail); refine wpQuiet_nil (hK _ ?_); clear hK K); (refine lex_one (by kernel_rfl) (by kernel_rfl) (by kernel_rfl) (fun K hK => ?_); go_big_quiet_step (fail); refine wpQuiet_nil (hK _ ?_); clear hK K); (refine lex_one (by kernel_rfl) (by kernel_rfl) (by kernel_rfl) (fun K hK => ?_); go_big_quiet_step (fail); refine wpQuiet_nil (hK _ ?_); clear hK K)
          (refine lex_call (f := 23) (args := #[.agg #[.int .i64 (kn : Int), .slice va L.length vc, .int .i64 (i64N n1), .int .i64 (i64N n2), .int .u64 (n3 : Int)], .int .i64 1]) (v := .int .i64 0) (by kernel_rfl) (fun _ _ h => by cases h) (by kernel_rfl) (by kernel_rfl) (fun _ => by go_simp) (fun W hW => qV.out W hW) (lex_put (type := 0) (pos := "") (fun K hK => ?_)); go_big_quiet_step (fail); refine wpQuiet_nil (hK _ ?_); clear hK K)
          (refine lex_one (by kernel_rfl) (by kernel_rfl) (by kernel_rfl) (fun K hK => ?_); go_big_quiet_step (fail); refine wpQuiet_nil (hK _ ?_); clear hK K); (refine lex_one (by kernel_rfl) (by kernel_rfl) (by kernel_rfl) (fun K hK => ?_); go_big_quiet_step (fail); refine wpQuiet_nil (hK _ ?_); clear hK K); (refine lex_one (by kernel_rfl) (by kernel_rfl) (by kernel_rfl) (fun K hK => ?_); go_big_quiet_step (fail); refine wpQuiet_nil (hK _ ?_); clear hK K); (refine lex_one (by kernel_rfl) (by kernel_rfl) (by kernel_rfl) (fun K hK => ?_); go_big_quiet_step (fail); refine wpQuiet_nil (hK _ ?_); clear hK K); (refine lex_one (by kernel_rfl) (by kernel_rfl) (by kernel_rfl) (fun K hK => ?_); go_big_quiet_step (fail); refine wpQuiet_nil (hK _ ?_); clear hK K)
          (refine lex_call (f := 72) (args := #[.agg #[], .agg #[.int .i64 (kn : Int), .slice va L.length vc, .int .i64 (i64N n1), .int .i64 (i64N n2), .int .u64 (n3 : Int)]]) (v := .string (bs ob)) (by kernel_rfl) (fun _ _ h => by cases h) (by kernel_rfl) (by kernel_rfl) (fun _ => by go_simp) (fun W hW => qO.out W hW) (lex_put (type := 0) (pos := "") (fun K hK => ?_)); go_big_quiet_step (fail); refine wpQuiet_nil (hK _ ?_); clear hK K)
          (refine lex_one (by kernel_rfl) (by kernel_rfl) (by kernel_rfl) (fun K hK => ?_); go_big_quiet_step (fail); refine wpQuiet_nil (hK _ ?_); clear hK K)
          (refine lex_val (v := .string (bs st)) (by kernel_rfl) (fun _ _ h => by cases h) (by kernel_rfl) (by kernel_rfl) (fun _ _ => by go_simp) (lex_put (type := 0) (pos := "") (fun K hK => ?_)); go_big_quiet_step (fail); refine wpQuiet_nil (hK _ ?_); clear hK K)
          (refine lex_one (by kernel_rfl) (by kernel_rfl) (by kernel_rfl) (fun K hK => ?_); go_big_quiet_step (fail); refine wpQuiet_nil (hK _ ?_); clear hK K); (refine lex_one (by kernel_rfl) (by kernel_rfl) (by kernel_rfl) (fun K hK => ?_); go_big_quiet_step (fail); refine wpQuiet_nil (hK _ ?_); clear hK K)
          refine lex_nil (by kernel_rfl) (by kernel_rfl) (by kernel_rfl) ?_
          intro w5 hb5
          simp only [hideAll]
          go_wp2_with fail
          go_ret3
          exact ⟨HE.out _, hb.trans (hb5.mono hb.size)⟩
      · have hvz : (ve != 0) = true := by simpa using h0v
        have HE := Lib.hid (HW.out · (by rw [HG.out, if_pos (.inr (.inl h0v))]))
        clear HG HW HT qO
        go_wp2_with fail
        refine wp_region_at (R := GrowR) (by kernel_rfl) (by kernel_rfl) ?_
        (refine lex_one (by kernel_rfl) (by kernel_rfl) (by kernel_rfl) (fun K hK => ?_); go_big_quiet_step (fail); refine wpQuiet_nil (hK _ ?_); clear hK K); (refine lex_one (by kernel_rfl) (by kernel_rfl) (by kernel_rfl) (fun K hK => ?_); go_big_quiet_step (fail); refine wpQuiet_nil (hK _ ?_); clear hK K); (refine lex_one (by kernel_rfl) (by kernel_rfl) (by kernel_rfl) (fun K hK => ?_); go_big_quiet_step (fail); refine wpQuiet_nil (hK _ ?_); clear hK K); (refine lex_one (by kernel_rfl) (by kernel_rfl) (by kernel_rfl) (fun K hK => ?_); go_big_quiet_step (fail); refine wpQuiet_nil (hK _ ?_); clear hK K)
        (refine lex_call (f := 23) (args := #[.agg #[.int .i64 (kn : Int), .slice va L.length vc, .int .i64 (i64N n1), .int .i64 (i64N n2), .int .u64 (n3 : Int)], .int .i64 1]) (v := .int .i64 ve) (by kernel_rfl) (fun _ _ h => by cases h) (by kernel_rfl) (by kernel_rfl) (fun _ => by go_simp) (fun W hW => qV.out W hW) (lex_put (type := 0) (pos := "") (fun K hK => ?_)); go_big_quiet_step (fail); refine wpQuiet_nil (hK _ ?_); clear hK K)
        (refine lex_one (by kernel_rfl) (by kernel_rfl) (by kernel_rfl) (fun K hK => ?_); go_big_quiet_step (fail); refine wpQuiet_nil (hK _ ?_); clear hK K); (refine lex_one (by kernel_rfl) (by kernel_rfl) (by kernel_rfl) (fun K hK => ?_); go_big_quiet_step (fail); refine wpQuiet_nil (hK _ ?_); clear hK K); (refine lex_one (by kernel_rfl) (by kernel_rfl) (by kernel_rfl) (fun K hK => ?_); go_big_quiet_step (fail); refine wpQuiet_nil (hK _ ?_); clear hK K)
        (refine lex_none (by kernel_rfl) (by kernel_rfl) (by kernel_rfl) (fun K hK => ?_); go_big_quiet_step (fail); refine wpQuiet_nil (hK _ ?_); clear hK K); (refine lex_none (by kernel_rfl) (by kernel_rfl) (by kernel_rfl) (fun K hK => ?_); go_big_quiet_step (fail); refine wpQuiet_nil (hK _ ?_); clear hK K); (refine lex_none (by kernel_rfl) (by kernel_rfl) (by kernel_rfl) (fun K hK => ?_); go_big_quiet_step (fail); refine wpQuiet_nil (hK _ ?_); clear hK K); (refine lex_none (by kernel_rfl) (by kernel_rfl) (by kernel_rfl) (fun K hK => ?_); go_big_quiet_step (fail); refine wpQuiet_nil (hK _ ?_); clear hK K); (refine lex_none (by kernel_rfl) (by kernel_rfl) (by kernel_rfl) (fun K hK => ?_); go_big_quiet_step (fail); refine wpQuiet_nil (hK _ ?_); clear hK K); (refine lex_none (by kernel_rfl) (by kernel_rfl) (by kernel_rfl) (fun K hK => ?_); go_big_quiet_step (fail); refine wpQuiet_nil (hK _ ?_); clear hK K)
        (refine lex_one (by kernel_rfl) (by kernel_rfl) (by kernel_rfl) (fun K hK => ?_); go_big_quiet_step (fail); refine wpQuiet_nil (hK _ ?_); clear hK K)
        refine lex_nil (by kernel_rfl) (by kernel_rfl) (by kernel_rfl) ?_
        intro w5 hb5
        simp only [hideAll]
        go_wp2_with fail
        go_ret3
        exact ⟨HE.out _, hb.trans (hb5.mono hb.size)⟩
end Go.Proofs.YtipdeiiipdnacaaGreat
namespace Go.Proofs.YtipdeiiipdnacaaGreat
open Go.RowKit Go.Maps Go.WideMaps
attribute [local go_sem] bs_toList bs_size

/-- Keys, ahead of a series that is put, and behind it. -/
def namPh {w0 : World} {B n m : Nat} {K : List (List UInt8)} {kv : Value} {D : DataW Unit} (_h : NamesIs w0 B n K kv m D) (K' : List (List UInt8)) : Phases where
  ph q w := (q = 0 ∧ GrowR w0 w) ∨ (q ≠ 0 ∧ ∃ kv' D', NamesIs w B n K' kv' m D' ∧ Turn w0 w (NF n m kv) (NF n m kv'))
  K _ _ := True
  w0 := w0
  start := .inl ⟨rfl, Below.refl _ _⟩
  refl _ := trivial
  trans _ _ := trivial
  grow _ := trivial
  stay h k := by
    rcases h with ⟨h1, h2⟩ | ⟨h1, kv', D', h2, h3⟩
    · exact .inl ⟨h1, h2.trans (Below.mono k h2.size)⟩
    · exact .inr ⟨h1, kv', D', h2.below k, h3.trans (Turn.of_below k)⟩
section
variable {w0 w : World} {B n m : Nat} {K K' : List (List UInt8)} {kv : Value} {D : DataW Unit} {h : NamesIs w0 B n K kv m D}
theorem namPh_kept {q : Nat} (hw : (namPh h K').ph q w) : Kept w0 w (NF n m kv) := by
  rcases hw with ⟨_, h2⟩ | ⟨_, kv', D', h2, h3⟩
  · exact Kept.of_below h2
  · exact h3.kept
theorem namPh_cell {p : Addr} {v : Value} (hp : w0.cell? p = some v) (hn : ¬ NF n m kv p.block) : ∀ x : PW (namPh h K'), x.w.cell? p = some v := fun x => by
  obtain ⟨q, hq⟩ := x.2
  exact (namPh_kept hq).cell hp hn
theorem namPh_row {f : FuncId} {args : Array Value} {v : Value} (hw : (namPh h K').ph 0 w)
    (hc : GrowR w0 w → Calls Tryz.prog f args w fun e w' => e = .returned v ∧ ∃ kv' D', NamesIs w' B n K' kv' m D' ∧ Turn w w' (NF n m kv) (NF n m kv')) :
    Calls Tryz.prog f args w fun e w' => e = .returned v ∧ (namPh h K').K w w' ∧ (namPh h K').ph (0 + 1) w' := by
  rcases hw with ⟨_, h2⟩ | ⟨h1, _⟩
  · refine (hc h2).mono ?_
    rintro e w' ⟨rfl, kv', D', h3, h4⟩
    exact ⟨rfl, trivial, .inr ⟨by omega, kv', D', h3, (Turn.of_below h2).trans h4⟩⟩
  · exact absurd rfl h1
end
theorem nf_tag {w : World} {B n m k : Nat} {K : List (List UInt8)} {kv : Value} {D : DataW Unit} {t : TypeId} (h : NamesIs w B n K kv m D) (hk : tag w k = some (some t)) (h1 : t ≠ 68) (h2 : t ≠ 9) : ¬ NF n m kv k := fun e => by
  rcases e with rfl | rfl | e
  · rw [tag_blk h.blk] at hk
    simp at hk
    exact h1 hk.symm
  · rw [tag_map h.map] at hk
    simp at hk
  · rw [tag_row h.row e] at hk
    simp at hk
    exact h2 hk.symm

/-- A change, in generation 2, behind keys; and the keys then. -/
def smallOne (K : List (List UInt8)) (x : Rc) : List UInt8 × List (List UInt8) :=
  if x.kind = 0 then (Num.small 0 ++ (namesPut K x.labels).1 ++ Num.small (u64N x.t) ++ Num.wide x.v, (namesPut K x.labels).2)
  else if x.kind = 1 then (Num.small 1 ++ (namesPut K x.labels).1 ++ Num.small (Num.zigI x.t).toNat ++ Num.small (Num.zigI x.u).toNat, (namesPut K x.labels).2)
  else (Num.small 2 ++ Num.small (u64N x.t), K)
theorem namesPut_len (K : List (List UInt8)) (L : List Lb) (h : (keyB L).length ≤ 1048576) : (namesPut K L).1.length ≤ 1048600 := by
  unfold namesPut
  split
  · have := Num.small_len (K.idxOf (keyB L)); simp only; omega
  · have h1 := Num.small_len K.length
    have h2 := Num.small_len (keyB L).length
    simp only [List.length_append, Num.text_len]
    omega

section
variable {w : World} {B n m : Nat} {K : List (List UInt8)} {kv : Value} {D : DataW Unit}
set_option maxRecDepth 100000 in
set_option maxHeartbeats 4000000 in
theorem put1_any (x : Rc) (sl : Value) (h : NamesIs w B n K kv m D) (hx : x.ok) (hk : x.kind = 0 ∨ x.kind = 1 ∨ x.kind = 2) (hL : ∀ W, Below B w W → LabsAt W sl x.labels) (hl : (keyB x.labels).length ≤ 1048576) (hK : K.length ≤ 1048576) (hB : B ≤ w.heap.size) :
    Calls Tryz.prog 120 #[.agg #[.pointer (some ⟨n, 0, none⟩)], recV x sl] w fun e w' => e = .returned (.string (bs (smallOne K x).1)) ∧ ∃ kv' D', NamesIs w' B n (smallOne K x).2 kv' m D' ∧ Turn w w' (NF n m kv) (NF n m kv') := by
  obtain ⟨k, L, t, u, v⟩ := x
  obtain ⟨x1, x2, x3, x4, x5, x6, x7⟩ := hx
  simp only at x1 x2 x3 x4 x5 x6 x7 hL hk hl
  rw [show recV ⟨k, L, t, u, v⟩ sl = .agg #[.int .i64 k, sl, .int .i64 t, .int .i64 u, .int .u64 (v : Int)] from rfl]
  have hb0 : Below w.heap.size w ((w.alloc (.cells #[.pointer (some ⟨n, 0, none⟩)] 80)).alloc (.cells #[.int .i64 k, sl, .int .i64 t, .int .i64 u, .int .u64 (v : Int)] 51)) := ((Below.refl _ w).alloc (Nat.le_refl _) _).alloc (by simp) _
  have hn0 : Blk ((w.alloc (.cells #[.pointer (some ⟨n, 0, none⟩)] 80)).alloc (.cells #[.int .i64 k, sl, .int .i64 t, .int .i64 u, .int .u64 (v : Int)] 51)) w.heap.size 80 #[.pointer (some ⟨n, 0, none⟩)] := (Blk.new w _ _).alloc _
  have hk0 : Blk ((w.alloc (.cells #[.pointer (some ⟨n, 0, none⟩)] 80)).alloc (.cells #[.int .i64 k, sl, .int .i64 t, .int .i64 u, .int .u64 (v : Int)] 51)) (w.heap.size + 1) 51 #[.int .i64 k, sl, .int .i64 t, .int .i64 u, .int .u64 (v : Int)] := by
    have := Blk.new (w.alloc (.cells #[.pointer (some ⟨n, 0, none⟩)] 80)) 51 #[.int .i64 k, sl, .int .i64 t, .int .i64 u, .int .u64 (v : Int)]
    rwa [World.size_alloc] at this
  obtain ⟨sa, sc, rfl, _⟩ := id (hL w (Below.refl _ _))
  generalize hW0 : (w.alloc (.cells #[.pointer (some ⟨n, 0, none⟩)] 80)).alloc (.cells #[.int .i64 k, .slice sa L.length sc, .int .i64 t, .int .i64 u, .int .u64 (v : Int)] 51) = W0 at *
  have hC := Lib.hid (fun (W : World) (hb : Below W0.heap.size W0 W) =>
    (show W.cell? ⟨w.heap.size, 0, none⟩ = some (.pointer (some ⟨n, 0, none⟩)) ∧ W.cell? ⟨w.heap.size + 1, 0, none⟩ = some (.int .i64 k) ∧ W.cell? ⟨w.heap.size + 1, 1, none⟩ = some (.slice sa L.length sc) ∧ W.cell? ⟨w.heap.size + 1, 2, none⟩ = some (.int .i64 t) ∧ W.cell? ⟨w.heap.size + 1, 3, none⟩ = some (.int .i64 u) ∧ W.cell? ⟨w.heap.size + 1, 4, none⟩ = some (.int .u64 (v : Int)) ∧
      NamesIs W B n K kv m D ∧ tag W w.heap.size = some (some 80) ∧ tag W (w.heap.size + 1) = some (some 51) ∧ Turn w W (NF n m kv) (NF n m kv) from
      ⟨((Blk.below hn0 hb hn0.lt).cell 0).trans rfl, ((Blk.below hk0 hb hk0.lt).cell 0).trans rfl, ((Blk.below hk0 hb hk0.lt).cell 1).trans rfl, ((Blk.below hk0 hb hk0.lt).cell 2).trans rfl, ((Blk.below hk0 hb hk0.lt).cell 3).trans rfl, ((Blk.below hk0 hb hk0.lt).cell 4).trans rfl,
        (h.below hb0).below hb, tag_blk (Blk.below hn0 hb hn0.lt), tag_blk (Blk.below hk0 hb hk0.lt), (Turn.of_below hb0).trans (Turn.of_below hb)⟩))
  obtain ⟨c0, d0, d1, d2, d3, d4, _⟩ := hC.out W0 (Below.refl _ _)
  have w1 := u64N_wrap t
  have b1 := u64N_lt t
  have hKn : (k : Int) = 0 ∨ k = 1 ∨ k = 2 := hk
  have qP := Lib.hid (fun (W : World) (hN : NamesIs W B n K kv m D) (hb : Below B w W) => put_any L (.slice sa L.length sc) hN (hL W hb) hl hK (Nat.le_trans hB hb.size))
  have hpl := namesPut_len K L hl
  clear hn0 hk0 hb0
  rcases hk with rfl | rfl | rfl
  · have hS : smallOne K ⟨0, L, t, u, v⟩ = (Num.small 0 ++ (namesPut K L).1 ++ Num.small (u64N t) ++ Num.wide v, (namesPut K L).2) := rfl
    rw [hS]
    have q1 := Lib.hid (fun W => num_Small_any 0 W (by omega) (by omega))
    rw [show ((0 : Int).toNat) = 0 from rfl] at q1
    have l1 := Num.small_len 0
    have q2 := Lib.hid (fun W => num_Small_any (u64N t : Int) W (by omega) (by omega))
    rw [show ((u64N t : Int).toNat) = u64N t from rfl] at q2
    have q3 := Lib.hid (fun W => num_Wide_any (v : Int) W (by omega) (by omega))
    rw [show ((v : Int).toNat) = v from rfl] at q3
    have l2 := Num.small_len (u64N t)
    have l3 := Num.wide_len v
    clear hS
    rcases hpp : namesPut K L with ⟨p1, K2⟩
    rw [hpp] at qP hpl
    simp only at hpl
    generalize Num.small 0 = y1 at *
    generalize Num.small (u64N t) = y2 at *
    generalize Num.wide v = y3 at *
    have a1 : ∀ W, (Op.stringOp .add (bs y1) (bs p1)).run Tryz.prog W = .ok (.string (bs (y1 ++ p1))) W := fun W => run_add_bs (P := Tryz.prog) _ _ (by omega) W
    have a2 : ∀ W, (Op.stringOp .add (bs (y1 ++ p1)) (bs y2)).run Tryz.prog W = .ok (.string (bs (y1 ++ p1 ++ y2))) W := fun W => run_add_bs (P := Tryz.prog) _ _ (by simp; omega) W
    have a3 : ∀ W, (Op.stringOp .add (bs (y1 ++ p1 ++ y2)) (bs y3)).run Tryz.prog W = .ok (.string (bs (y1 ++ p1 ++ y2 ++ y3))) W := fun W => run_add_bs (P := Tryz.prog) _ _ (by simp; omega) W
    generalize y1 ++ p1 ++ y2 ++ y3 = z3 at *
    generalize y1 ++ p1 ++ y2 = z2 at *
    generalize y1 ++ p1 = z1 at *
    go_enter Tryz.func120, Tryz.ntmps120
    go_wp2_with fail
    refine (q1.out _).mono ?_
    rintro e W1 ⟨rfl, hb1⟩
    obtain ⟨e0, f0, f1, f2, f3, f4, hN1, t1, t2, hT1⟩ := hC.out W1 hb1
    clear c0 d0 d1 d2 d3 d4 hC
    have hbB := Turn.kept hT1
    have hBel := Kept.below hbB hB h.ge
    have HQ := Lib.hid (fun (W : World) (hW : GrowR W1 W) => qP.out W (hN1.below hW) (hBel.trans (Below.mono hW (Nat.le_trans hB hbB.size))))
    have n1' := nf_tag hN1 t1 (by decide) (by decide)
    have n2' := nf_tag hN1 t2 (by decide) (by decide)
    have g0 := namPh_cell (h := hN1) (K' := K2) e0 n1'
    have g1 := namPh_cell (h := hN1) (K' := K2) f1 n2'
    have g2 := namPh_cell (h := hN1) (K' := K2) f2 n2'
    have g3 := namPh_cell (h := hN1) (K' := K2) f3 n2'
    have g4 := namPh_cell (h := hN1) (K' := K2) f4 n2'
    go_wp2_with fail
    refine wp_region_C (namPh hN1 K2) [5] rfl (by kernel_rfl) (by kernel_rfl) (by kernel_rfl) (by kernel_rfl) ?_
    (refine lexc_one (by kernel_rfl) (by kernel_rfl) (by kernel_rfl) (by kernel_rfl) (fun K hK => ?_); go_big_quiet_step (fail); refine wpQuiet_nil (hK _ ?_); clear hK K); (refine lexc_one (by kernel_rfl) (by kernel_rfl) (by kernel_rfl) (by kernel_rfl) (fun K hK => ?_); go_big_quiet_step (fail); refine wpQuiet_nil (hK _ ?_); clear hK K); (refine lexc_one (by kernel_rfl) (by kernel_rfl) (by kernel_rfl) (by kernel_rfl) (fun K hK => ?_); go_big_quiet_step (fail); refine wpQuiet_nil (hK _ ?_); clear hK K); (refine lexc_one (by kernel_rfl) (by kernel_rfl) (by kernel_rfl) (by kernel_rfl) (fun K hK => ?_); go_big_quiet_step (fail); refine wpQuiet_nil (hK _ ?_); clear hK K); (refine lexc_one (by kernel_rfl) (by kernel_rfl) (by kernel_rfl) (by kernel_rfl) (fun K hK => ?_); go_big_quiet_step (fail); refine wpQuiet_nil (hK _ ?_); clear hK K)
    (refine lexc_row 0 (f := 56) (args := #[.pointer (some ⟨n, 0, none⟩), .slice sa L.length sc]) (v := .string (bs p1)) (by kernel_rfl) (by kernel_rfl) (by kernel_rfl) (fun _ _ h => by cases h) (by kernel_rfl) (by kernel_rfl) (fun _ => by go_simp) (fun W hW => namPh_row hW (HQ.out W)) (lexc_put (type := 0) (pos := "") (fun K hK => ?_)); go_big_quiet_step (fail); refine wpQuiet_nil (hK _ ?_); clear hK K)
    (refine lexc_one (by kernel_rfl) (by kernel_rfl) (by kernel_rfl) (by kernel_rfl) (fun K hK => ?_); go_big_quiet_step (fail); refine wpQuiet_nil (hK _ ?_); clear hK K); (refine lexc_one (by kernel_rfl) (by kernel_rfl) (by kernel_rfl) (by kernel_rfl) (fun K hK => ?_); go_big_quiet_step (fail); refine wpQuiet_nil (hK _ ?_); clear hK K); (refine lexc_one (by kernel_rfl) (by kernel_rfl) (by kernel_rfl) (by kernel_rfl) (fun K hK => ?_); go_big_quiet_step (fail); refine wpQuiet_nil (hK _ ?_); clear hK K); (refine lexc_one (by kernel_rfl) (by kernel_rfl) (by kernel_rfl) (by kernel_rfl) (fun K hK => ?_); go_big_quiet_step (fail); refine wpQuiet_nil (hK _ ?_); clear hK K)
    (refine lexc_call (f := 61) (args := #[.int .u64 (u64N t : Int)]) (v := .string (bs y2)) (by kernel_rfl) (by kernel_rfl) (fun _ _ h => by cases h) (by kernel_rfl) (by kernel_rfl) (fun _ => by go_simp) (fun W hW => q2.out W) (lexc_put (type := 0) (pos := "") (fun K hK => ?_)); go_big_quiet_step (fail); refine wpQuiet_nil (hK _ ?_); clear hK K)
    (refine lexc_one (by kernel_rfl) (by kernel_rfl) (by kernel_rfl) (by kernel_rfl) (fun K hK => ?_); go_big_quiet_step (fail); refine wpQuiet_nil (hK _ ?_); clear hK K); (refine lexc_one (by kernel_rfl) (by kernel_rfl) (by kernel_rfl) (by kernel_rfl) (fun K hK => ?_); go_big_quiet_step (fail); refine wpQuiet_nil (hK _ ?_); clear hK K); (refine lexc_one (by kernel_rfl) (by kernel_rfl) (by kernel_rfl) (by kernel_rfl) (fun K hK => ?_); go_big_quiet_step (fail); refine wpQuiet_nil (hK _ ?_); clear hK K)
    (refine lexc_call (f := 77) (args := #[.int .u64 (v : Int)]) (v := .string (bs y3)) (by kernel_rfl) (by kernel_rfl) (fun _ _ h => by cases h) (by kernel_rfl) (by kernel_rfl) (fun _ => by go_simp) (fun W hW => q3.out W) (lexc_put (type := 0) (pos := "") (fun K hK => ?_)); go_big_quiet_step (fail); refine wpQuiet_nil (hK _ ?_); clear hK K)
    (refine lexc_one (by kernel_rfl) (by kernel_rfl) (by kernel_rfl) (by kernel_rfl) (fun K hK => ?_); go_big_quiet_step (fail); refine wpQuiet_nil (hK _ ?_); clear hK K); (refine lexc_one (by kernel_rfl) (by kernel_rfl) (by kernel_rfl) (by kernel_rfl) (fun K hK => ?_); go_big_quiet_step (fail); refine wpQuiet_nil (hK _ ?_); clear hK K)
    refine lexc_nil (by kernel_rfl) (by kernel_rfl) (by kernel_rfl) ?_
    rintro W2 _ hp
    obtain ⟨_, kv2, D2, hN2, hT2⟩ := hp.resolve_left (fun e => by cases e.1)
    simp only [hideAll]
    clear g0 g1 g2 g3 g4
    go_wp2_with fail
    go_ret
    exact ⟨rfl, _, _, hN2, hT1.trans hT2⟩
  · have hS : smallOne K ⟨1, L, t, u, v⟩ = (Num.small 1 ++ (namesPut K L).1 ++ Num.small (Num.zigI t).toNat ++ Num.small (Num.zigI u).toNat, (namesPut K L).2) := rfl
    rw [hS]
    have q1 := Lib.hid (fun W => num_Small_any 1 W (by omega) (by omega))
    rw [show ((1 : Int).toNat) = 1 from rfl] at q1
    have l1 := Num.small_len 1
    have zb1 := Num.zig_bd t x3 x4
    have zb2 := Num.zig_bd u x5 x6
    have q4 := Lib.hid (fun W => (num_Zig_any t W x3 x4).mono fun e w' ⟨h1, h2⟩ => (show e = Ending.returned (.int .u64 (Num.zigI t)) ∧ GrowR W w' from ⟨h1, h2 ▸ Below.refl _ _⟩))
    have q5 := Lib.hid (fun W => (num_Zig_any u W x5 x6).mono fun e w' ⟨h1, h2⟩ => (show e = Ending.returned (.int .u64 (Num.zigI u)) ∧ GrowR W w' from ⟨h1, h2 ▸ Below.refl _ _⟩))
    have q2 := Lib.hid (fun W => num_Small_any (Num.zigI t) W zb1.1 zb1.2)
    have q3 := Lib.hid (fun W => num_Small_any (Num.zigI u) W zb2.1 zb2.2)
    have l2 := Num.small_len (Num.zigI t).toNat
    have l3 := Num.small_len (Num.zigI u).toNat
    clear hS zb1 zb2
    rcases hpp : namesPut K L with ⟨p1, K2⟩
    rw [hpp] at qP hpl
    simp only at hpl
    generalize Num.small 1 = y1 at *
    generalize Num.small (Num.zigI t).toNat = y2 at *
    generalize Num.small (Num.zigI u).toNat = y3 at *
    generalize Num.zigI t = zt at *
    generalize Num.zigI u = zu at *
    have a1 : ∀ W, (Op.stringOp .add (bs y1) (bs p1)).run Tryz.prog W = .ok (.string (bs (y1 ++ p1))) W := fun W => run_add_bs (P := Tryz.prog) _ _ (by omega) W
    have a2 : ∀ W, (Op.stringOp .add (bs (y1 ++ p1)) (bs y2)).run Tryz.prog W = .ok (.string (bs (y1 ++ p1 ++ y2))) W := fun W => run_add_bs (P := Tryz.prog) _ _ (by simp; omega) W
    have a3 : ∀ W, (Op.stringOp .add (bs (y1 ++ p1 ++ y2)) (bs y3)).run Tryz.prog W = .ok (.string (bs (y1 ++ p1 ++ y2 ++ y3))) W := fun W => run_add_bs (P := Tryz.prog) _ _ (by simp; omega) W
    generalize y1 ++ p1 ++ y2 ++ y3 = z3 at *
    generalize y1 ++ p1 ++ y2 = z2 at *
    generalize y1 ++ p1 = z1 at *
    go_enter Tryz.func120, Tryz.ntmps120
    go_wp2_with fail
    refine (q1.out _).mono ?_
    rintro e W1 ⟨rfl, hb1⟩
    obtain ⟨e0, f0, f1, f2, f3, f4, hN1, t1, t2, hT1⟩ := hC.out W1 hb1
    clear c0 d0 d1 d2 d3 d4 hC
    have hbB := Turn.kept hT1
    have hBel := Kept.below hbB hB h.ge
    have HQ := Lib.hid (fun (W : World) (hW : GrowR W1 W) => qP.out W (hN1.below hW) (hBel.trans (Below.mono hW (Nat.le_trans hB hbB.size))))
    have n1' := nf_tag hN1 t1 (by decide) (by decide)
    have n2' := nf_tag hN1 t2 (by decide) (by decide)
    have g0 := namPh_cell (h := hN1) (K' := K2) e0 n1'
    have g1 := namPh_cell (h := hN1) (K' := K2) f1 n2'
    have g2 := namPh_cell (h := hN1) (K' := K2) f2 n2'
    have g3 := namPh_cell (h := hN1) (K' := K2) f3 n2'
    have g4 := namPh_cell (h := hN1) (K' := K2) f4 n2'
    go_wp2_with fail
    refine wp_region_C (namPh hN1 K2) [5] rfl (by kernel_rfl) (by kernel_rfl) (by kernel_rfl) (by kernel_rfl) ?_
    (refine lexc_one (by kernel_rfl) (by kernel_rfl) (by kernel_rfl) (by kernel_rfl) (fun K hK => ?_); go_big_quiet_step (fail); refine wpQuiet_nil (hK _ ?_); clear hK K); (refine lexc_one (by kernel_rfl) (by kernel_rfl) (by kernel_rfl) (by kernel_rfl) (fun K hK => ?_); go_big_quiet_step (fail); refine wpQuiet_nil (hK _ ?_); clear hK K); (refine lexc_one (by kernel_rfl) (by kernel_rfl) (by kernel_rfl) (by kernel_rfl) (fun K hK => ?_); go_big_quiet_step (fail); refine wpQuiet_nil (hK _ ?_); clear hK K); (refine lexc_one (by kernel_rfl) (by kernel_rfl) (by kernel_rfl) (by kernel_rfl) (fun K hK => ?_); go_big_quiet_step (fail); refine wpQuiet_nil (hK _ ?_); clear hK K); (refine lexc_one (by kernel_rfl) (by kernel_rfl) (by kernel_rfl) (by kernel_rfl) (fun K hK => ?_); go_big_quiet_step (fail); refine wpQuiet_nil (hK _ ?_); clear hK K)
    (refine lexc_row 0 (f := 56) (args := #[.pointer (some ⟨n, 0, none⟩), .slice sa L.length sc]) (v := .string (bs p1)) (by kernel_rfl) (by kernel_rfl) (by kernel_rfl) (fun _ _ h => by cases h) (by kernel_rfl) (by kernel_rfl) (fun _ => by go_simp) (fun W hW => namPh_row hW (HQ.out W)) (lexc_put (type := 0) (pos := "") (fun K hK => ?_)); go_big_quiet_step (fail); refine wpQuiet_nil (hK _ ?_); clear hK K)
    (refine lexc_one (by kernel_rfl) (by kernel_rfl) (by kernel_rfl) (by kernel_rfl) (fun K hK => ?_); go_big_quiet_step (fail); refine wpQuiet_nil (hK _ ?_); clear hK K); (refine lexc_one (by kernel_rfl) (by kernel_rfl) (by kernel_rfl) (by kernel_rfl) (fun K hK => ?_); go_big_quiet_step (fail); refine wpQuiet_nil (hK _ ?_); clear hK K); (refine lexc_one (by kernel_rfl) (by kernel_rfl) (by kernel_rfl) (by kernel_rfl) (fun K hK => ?_); go_big_quiet_step (fail); refine wpQuiet_nil (hK _ ?_); clear hK K)
    (refine lexc_call (f := 124) (args := #[.int .i64 t]) (v := .int .u64 zt) (by kernel_rfl) (by kernel_rfl) (fun _ _ h => by cases h) (by kernel_rfl) (by kernel_rfl) (fun _ => by go_simp) (fun W hW => q4.out W) (lexc_put (type := 0) (pos := "") (fun K hK => ?_)); go_big_quiet_step (fail); refine wpQuiet_nil (hK _ ?_); clear hK K)
    (refine lexc_call (f := 61) (args := #[.int .u64 zt]) (v := .string (bs y2)) (by kernel_rfl) (by kernel_rfl) (fun _ _ h => by cases h) (by kernel_rfl) (by kernel_rfl) (fun _ => by go_simp) (fun W hW => q2.out W) (lexc_put (type := 0) (pos := "") (fun K hK => ?_)); go_big_quiet_step (fail); refine wpQuiet_nil (hK _ ?_); clear hK K)
    (refine lexc_one (by kernel_rfl) (by kernel_rfl) (by kernel_rfl) (by kernel_rfl) (fun K hK => ?_); go_big_quiet_step (fail); refine wpQuiet_nil (hK _ ?_); clear hK K); (refine lexc_one (by kernel_rfl) (by kernel_rfl) (by kernel_rfl) (by kernel_rfl) (fun K hK => ?_); go_big_quiet_step (fail); refine wpQuiet_nil (hK _ ?_); clear hK K); (refine lexc_one (by kernel_rfl) (by kernel_rfl) (by kernel_rfl) (by kernel_rfl) (fun K hK => ?_); go_big_quiet_step (fail); refine wpQuiet_nil (hK _ ?_); clear hK K)
    (refine lexc_call (f := 124) (args := #[.int .i64 u]) (v := .int .u64 zu) (by kernel_rfl) (by kernel_rfl) (fun _ _ h => by cases h) (by kernel_rfl) (by kernel_rfl) (fun _ => by go_simp) (fun W hW => q5.out W) (lexc_put (type := 0) (pos := "") (fun K hK => ?_)); go_big_quiet_step (fail); refine wpQuiet_nil (hK _ ?_); clear hK K)
    (refine lexc_call (f := 61) (args := #[.int .u64 zu]) (v := .string (bs y3)) (by kernel_rfl) (by kernel_rfl) (fun _ _ h => by cases h) (by kernel_rfl) (by kernel_rfl) (fun _ => by go_simp) (fun W hW => q3.out W) (lexc_put (type := 0) (pos := "") (fun K hK => ?_)); go_big_quiet_step (fail); refine wpQuiet_nil (hK _ ?_); clear hK K)
    (refine lexc_one (by kernel_rfl) (by kernel_rfl) (by kernel_rfl) (by kernel_rfl) (fun K hK => ?_); go_big_quiet_step (fail); refine wpQuiet_nil (hK _ ?_); clear hK K); (refine lexc_one (by kernel_rfl) (by kernel_rfl) (by kernel_rfl) (by kernel_rfl) (fun K hK => ?_); go_big_quiet_step (fail); refine wpQuiet_nil (hK _ ?_); clear hK K)
    refine lexc_nil (by kernel_rfl) (by kernel_rfl) (by kernel_rfl) ?_
    rintro W2 _ hp
    obtain ⟨_, kv2, D2, hN2, hT2⟩ := hp.resolve_left (fun e => by cases e.1)
    simp only [hideAll]
    clear g0 g1 g2 g3 g4
    go_wp2_with fail
    go_ret
    exact ⟨rfl, _, _, hN2, hT1.trans hT2⟩
  · have hS : smallOne K ⟨2, L, t, u, v⟩ = (Num.small 2 ++ Num.small (u64N t), K) := rfl
    have q1 := Lib.hid (fun W => num_Small_any 2 W (by omega) (by omega))
    rw [show ((2 : Int).toNat) = 2 from rfl] at q1
    have q2 := Lib.hid (fun W => num_Small_any (u64N t : Int) W (by omega) (by omega))
    rw [show ((u64N t : Int).toNat) = u64N t from rfl] at q2
    have l1 := Num.small_len 2
    have l2 := Num.small_len (u64N t)
    rw [hS]
    generalize Num.small 2 = y1 at *
    generalize Num.small (u64N t) = y2 at *
    have hadd : ∀ W, (Op.stringOp .add (bs y1) (bs y2)).run Tryz.prog W = .ok (.string (bs (y1 ++ y2))) W := fun W => run_add_bs (P := Tryz.prog) _ _ (by omega) W
    generalize y1 ++ y2 = y at *
    clear hS hpl qP
    go_enter Tryz.func120, Tryz.ntmps120
    go_wp2_with fail
    refine (q1.out _).mono ?_
    rintro e W1 ⟨rfl, hb1⟩
    obtain ⟨e0, f0, f1, f2, f3, f4, hN1, t1, t2, hT1⟩ := hC.out W1 hb1
    clear c0 d0 d1 d2 d3 d4
    go_wp2_with fail
    refine (q2.out _).mono ?_
    rintro e W2 ⟨rfl, hb2⟩
    go_wp2_with fail
    go_ret
    exact ⟨rfl, _, _, hN1.below hb2, hT1.trans (Turn.of_below hb2)⟩
end
end Go.Proofs.YtipdeiiipdnacaaGreat
namespace Go.Proofs.YtipdeiiipdnacaaGreat
open Go.RowKit Go.Maps Go.WideMaps
attribute [local go_sem] bs_toList bs_size

/-- Changes, in generation 2, behind keys; and the keys then. -/
def smallPut : List (List UInt8) → List Rc → Option (List UInt8) × List (List UInt8)
  | K, [] => (some [], K)
  | K, x :: R => if 20000 < (smallOne K x).1.length then (none, (smallOne K x).2)
    else ((smallPut (smallOne K x).2 R).1.map (framePut (smallOne K x).1 ++ ·), (smallPut (smallOne K x).2 R).2)
theorem namesPut_keys (K : List (List UInt8)) (L : List Lb) : (namesPut K L).2.length ≤ K.length + 1 := by
  unfold namesPut
  split <;> simp
theorem smallOne_keys (K : List (List UInt8)) (x : Rc) : (smallOne K x).2.length ≤ K.length + 1 := by
  unfold smallOne
  have := namesPut_keys K x.labels
  split
  · exact this
  · split
    · exact this
    · simp
/-- A change that can be put. -/
def fits2 (x : Rc) : Prop := (x.kind = 0 ∨ x.kind = 1 ∨ x.kind = 2) ∧ (keyB x.labels).length ≤ 1048576
def putV (r : Option (List UInt8)) : Value := match r with
  | none => .tuple #[.string ⟨#[]⟩, .bool false]
  | some s => .tuple #[.string (bs s), .bool true]
section
variable {w : World} {B n m : Nat} {K : List (List UInt8)} {kv : Value} {D : DataW Unit}
set_option maxRecDepth 100000 in
set_option maxHeartbeats 4000000 in
theorem small_put_any (R : List Rc) (v : Value) (wA : World) (hA : Below wA.heap.size wA w) (hAB : wA.heap.size ≤ B) (h : NamesIs w B n K kv m D) (hR : RecsAt wA v R) (hf : ∀ x ∈ R, fits2 x) (hK : K.length + R.length ≤ 1048576) (hB : B ≤ w.heap.size) :
    Calls Tryz.prog 115 #[.agg #[.pointer (some ⟨n, 0, none⟩)], v] w fun e w' => e = .returned (putV (smallPut K R).1) ∧ (∃ kv' D', ((smallPut K R).1 ≠ none → NamesIs w' B n (smallPut K R).2 kv' m D') ∧ Turn w w' (NF n m kv) (NF n m kv')) := by
  obtain ⟨a, c, rfl, hn, hc⟩ := hR
  have HC := Lib.hid hc
  clear hc
  have hb0 := one_alloc w (.cells #[.pointer (some ⟨n, 0, none⟩)] 80)
  have hk0 : Blk (w.alloc (.cells #[.pointer (some ⟨n, 0, none⟩)] 80)) w.heap.size 80 #[.pointer (some ⟨n, 0, none⟩)] := Blk.new _ _ _
  have hV : ∀ {r}, (smallPut K R).1 = r → putV (smallPut K R).1 = putV r := fun e => by rw [e]
  have HV := Lib.hid (fun r (e : (smallPut K R).1 = r) => hV e)
  clear hV
  go_enter Tryz.func115, Tryz.ntmps115
  go_wp2_with fail
  go_loopw [6, 12] (fun vs vi wr => ∃ (i : Nat) (s : List UInt8) (Ki : List (List UInt8)) (kvi : Value) (Di : DataW Unit), i ≤ R.length ∧ vi = .int .i64 (i : Int) ∧ vs = .string (bs s) ∧ s.length ≤ i * 30000 ∧ Ki.length ≤ K.length + i ∧
      smallPut K R = ((smallPut Ki (R.drop i)).1.map (s ++ ·), (smallPut Ki (R.drop i)).2) ∧ NamesIs wr B n Ki kvi m Di ∧ Blk wr w.heap.size 80 #[.pointer (some ⟨n, 0, none⟩)] ∧ Turn w wr (NF n m kv) (NF n m kvi) ∧ Below B w wr) (fun _ vi _ => R.length - (intOf vi).toNat)
  case atStart => exact ⟨0, [], K, kv, D, Nat.zero_le _, rfl, rfl, by simp, by omega, by rw [List.drop_zero]; cases smallPut K R; simp, h.below hb0, hk0, Turn.of_below hb0, hb0.mono hB⟩
  clear hb0 hk0
  obtain ⟨i, s, Ki, kvi, Di, hi, rfl, rfl, hsl, hKi, hP, hN, hk, hT, hbB⟩ := hrel
  rcases (show i < R.length ∨ i = R.length by omega) with hil | rfl
  · have hfit := hf R[i] (List.getElem_mem _)
    rw [List.drop_eq_getElem_cons hil] at hP
    obtain ⟨b, o, rfl, hRA⟩ := HC.out i _ (List.getElem?_eq_getElem hil)
    have hAr : Below wA.heap.size wA wr := hA.trans (hbB.mono hAB)
    have hLW : ∀ sl, LabsAt wA sl R[i].labels → ∀ W, Below B wr W → LabsAt W sl R[i].labels := fun sl hsl W hW => hsl.below (hAr.trans (hW.mono hAB))
    have hcell : ∀ {p : Addr} {v : Value}, wA.cell? p = some v → wr.cell? p = some v := fun h => (Below.cell hAr (World.block_lt_of_cell? _ _ h)).trans h
    obtain ⟨hok, sl, e0, e1, hL, e2, e3, e4⟩ := hRA
    have e0 := hcell e0
    have e1 := hcell e1
    have e2 := hcell e2
    have e3 := hcell e3
    have e4 := hcell e4
    have HL := Lib.hid (hLW sl hL)
    obtain ⟨va, vc, rfl, _⟩ := hL
    have HPx := Lib.hid (fun (K' : List (List UInt8)) => (show smallPut K' (R[i] :: R.drop (i + 1)) = if 20000 < (smallOne K' R[i]).1.length then (none, (smallOne K' R[i]).2)
      else ((smallPut (smallOne K' R[i]).2 (R.drop (i + 1))).1.map (framePut (smallOne K' R[i]).1 ++ ·), (smallPut (smallOne K' R[i]).2 (R.drop (i + 1))).2) from rfl))
    rw [HPx.out Ki] at hP
    clear hLW hcell HPx
    generalize R[i] = x at *
    have hB' : B ≤ wr.heap.size := Nat.le_trans hB hT.kept.size
    have hb1 := one_alloc wr (.cells #[.int .i64 x.kind, .slice va x.labels.length vc, .int .i64 x.t, .int .i64 x.u, .int .u64 (x.v : Int)] 51)
    have q := Lib.hid (put1_any x (.slice va x.labels.length vc) (hN.below hb1) hok hfit.1 (fun W hW => HL.out W ((hb1.mono hB').trans hW)) hfit.2 (by omega) (Nat.le_trans hB' hb1.size))
    rw [show recV x (.slice va x.labels.length vc) = .agg #[.int .i64 x.kind, .slice va x.labels.length vc, .int .i64 x.t, .int .i64 x.u, .int .u64 (x.v : Int)] from rfl] at q
    have hkk := smallOne_keys Ki x
    rcases hso : smallOne Ki x with ⟨p1, K2⟩
    rw [hso] at q hP hkk
    simp only at q hP hkk
    have k0 : wr.cell? ⟨w.heap.size, 0, none⟩ = some (.pointer (some ⟨n, 0, none⟩)) := (Blk.cell hk 0).trans rfl
    have k0' := (Below.cell hb1 (World.block_lt_of_cell? _ _ k0)).trans k0
    by_cases h20 : 20000 < p1.length
    · rw [if_pos h20] at hP
      have hP' : (smallPut K R).1 = none := by rw [hP]; rfl
      have HE := Lib.hid (HV.out none hP')
      have HP' := Lib.hid hP'
      clear hP'
      have hd : decide (20000 < p1.length) = true := by simpa using h20
      have hd' : decide (20000 < (p1.length : Int)) = true := by simp; omega
      clear hP HV
      go_wp2_with fail
      refine q.out.mono ?_
      rintro e W1 ⟨rfl, kv1, D1, hN1, hT1⟩
      go_wp2_with fail
      go_ret2
      exact ⟨by rw [HE.out]; rfl, kv1, D1, fun e => absurd HP'.out e, hT.trans ((Turn.of_below hb1).trans hT1)⟩
    · rw [if_neg h20] at hP
      have hd : decide (20000 < p1.length) = false := by simpa using h20
      have hd' : decide (20000 < (p1.length : Int)) = false := by simp; omega
      have q2 := Lib.hid (fun W => framePut_any p1 (by omega) W)
      have hfl : (framePut p1).length ≤ 20020 := by
        unfold framePut
        rw [checkedB_len, Num.text_len]
        have := Num.small_len p1.length
        omega
      generalize framePut p1 = fp at *
      have hadd : ∀ W, (Op.stringOp .add (bs s) (bs fp)).run Tryz.prog W = .ok (.string (bs (s ++ fp))) W := fun W => run_add_bs (P := Tryz.prog) _ _ (by omega) W
      have hs2 : (s ++ fp).length ≤ (i + 1) * 30000 := by rw [List.length_append]; omega
      have HP2 := Lib.hid (show smallPut K R = ((smallPut K2 (R.drop (i + 1))).1.map ((s ++ fp) ++ ·), (smallPut K2 (R.drop (i + 1))).2) by
        rw [hP]
        cases (smallPut K2 (R.drop (i + 1))).1 <;> simp)
      clear hP
      generalize s ++ fp = s2 at *
      go_wp2_with fail
      refine q.out.mono ?_
      rintro e W1 ⟨rfl, kv1, D1, hN1, hT1⟩
      have hTt := (Turn.of_below (F := NF n m kvi) hb1).trans hT1
      have hk1 := hk.keptK hTt.kept (nf_tag hN (tag_blk hk) (by decide) (by decide))
      have hbb := hbB.trans (Kept.below hTt.kept hB' hN.ge)
      clear q hk
      go_wp2_with fail
      refine (q2.out _).mono ?_
      rintro e W2 ⟨rfl, hb2⟩
      go_wp2_with fail
      go_roundw
      case rel => exact ⟨i + 1, s2, K2, kv1, D1, by omega, by go_num, rfl, hs2, by omega, HP2.out, hN1.below hb2, Blk.below hk1 hb2 hk1.lt, hT.trans (hTt.trans (Turn.of_below hb2)), hbb.trans (Below.mono hb2 (Nat.le_trans hB' hTt.kept.size))⟩
      case measure => simp [intOf]; omega
  · rw [List.drop_length] at hP
    have hP2 : smallPut K R = (some s, Ki) := by rw [hP]; simp [smallPut]
    have HE := Lib.hid (HV.out (some s) (by rw [hP2]))
    clear hP HV
    go_wp2_with fail
    go_ret2
    exact ⟨by rw [HE.out]; rfl, kvi, Di, fun _ => by rw [hP2]; exact hN, hT⟩
end
end Go.Proofs.YtipdeiiipdnacaaGreat
