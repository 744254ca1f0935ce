/- A region that draws its order, with an append onto a row of the call's own in its middle. -/
import Derived.Test.YtgehgjalkponfaaGreatDoorLexg
import Derived.Maps.AppendAt
namespace Go.Proofs.YtgehgjalkponfaaGreatDoor
open Go.RowKit

/-- A row with other cells from a place on, where there is room. -/
def rowWith (cur : Array Value) (k : Nat) (news : List Value) : Array Value := if k + news.length ≤ cur.size then (cur.toList.take k ++ news ++ cur.toList.drop (k + news.length)).toArray else cur
theorem rowWith_size (cur : Array Value) (k : Nat) (news : List Value) : (rowWith cur k news).size = cur.size := by
  unfold rowWith
  split
  · simp only [List.size_toArray, List.length_append, List.length_take, List.length_drop, Array.length_toList]
    omega
  · rfl
theorem rowWith_take (cur : Array Value) (k : Nat) (news : List Value) : (rowWith cur k news).toList.take k = cur.toList.take k := by
  unfold rowWith
  split
  · rename_i h
    have : (cur.toList.take k).length = k := by simp; omega
    simp only [List.append_assoc]
    rw [List.take_append_of_le_length (by omega), List.take_of_length_le (by omega)]
  · rfl
theorem rowWith_again (cur : Array Value) (k : Nat) (news : List Value) : rowWith (rowWith cur k news) k news = rowWith cur k news := by
  have hs := rowWith_size cur k news
  by_cases h : k + news.length ≤ cur.size
  · have e : rowWith cur k news = (cur.toList.take k ++ news ++ cur.toList.drop (k + news.length)).toArray := by unfold rowWith; rw [if_pos h]
    have ht := rowWith_take cur k news
    have hd : (rowWith cur k news).toList.drop (k + news.length) = cur.toList.drop (k + news.length) := by
      rw [e]
      have : (cur.toList.take k ++ news).length = k + news.length := by simp; omega
      show (cur.toList.take k ++ news ++ cur.toList.drop (k + news.length)).drop (k + news.length) = _
      rw [List.drop_append_of_le_length (by omega), List.drop_of_length_le (by omega), List.nil_append]
    generalize rowWith cur k news = C at *
    unfold rowWith
    rw [if_pos (by rw [hs]; exact h), ht, hd, e]
  · generalize rowWith cur k news = C at *
    unfold rowWith
    rw [if_neg (by rw [hs]; exact h)]

/-- What a row's block holds behind an append that found room. -/
def appendedTo (w : World) (v : Value) (size n : Nat) (news : List Value) : Option Obj :=
  match v with
  | .slice (some a) _ _ => match w.heap[a.block]? with
    | some (.cells cur e fz) => some (.cells (rowWith cur (n * size) news) e fz)
    | _ => none
  | _ => none

/-- New memory alone; but one row may become what it is to become. -/
def AppR (row : Option Nat) (fin : Option Obj) (a b : World) : Prop := a.grownBy b row ∧ ∀ g, row = some g → b.heap[g]? = a.heap[g]? ∨ b.heap[g]? = fin
instance {row : Option Nat} {fin : Option Obj} : Turns (AppR row fin) :=
  ⟨fun _ => ⟨⟨rfl, rfl, rfl, Nat.le_refl _, fun _ _ _ => rfl⟩, fun _ _ => .inl rfl⟩,
   fun h k => ⟨World.grownBy.trans h.1 k.1, fun g hg => by
     rcases k.2 g hg with e | e
     · rw [e]; exact h.2 g hg
     · exact .inr e⟩,
   fun _ => ⟨⟨rfl, rfl, rfl, Nat.le_refl _, fun _ _ _ => rfl⟩, fun _ _ => .inl rfl⟩⟩

theorem AppR.cell {row : Option Nat} {fin : Option Obj} {w w' : World} {p : Addr} {v : Value} (hR : AppR row fin w w') (h : w.cell? p = some v) (hr : some p.block ≠ row) : w'.cell? p = some v :=
  (World.cell?_of_block (hR.1.block p.block (World.block_lt_of_cell? _ _ h) hr)).trans h
theorem app_cell {row : Option Nat} {fin : Option Obj} {w : World} {p : Addr} {v : Value} (h : w.cell? p = some v) (hr : some p.block ≠ row) : ∀ x : RW (AppR row fin) w, x.w.cell? p = some v := fun x => AppR.cell x.is h hr

/-- A slice of new cells. -/
def NewCells (w0 : World) (m : Nat) (news : List Value) : Held := fun x W => ∃ p c, x = .slice (some ⟨p, 0, none⟩) m c ∧ w0.heap.size ≤ p ∧ ∀ j u, news[j]? = some u → W.cell? ((⟨p, 0, none⟩ : Addr).add j) = some u
theorem add_block (a : Addr) (j : Nat) : (a.add j).block = a.block := by unfold Addr.add; split <;> rfl
theorem newCells_keeps {row : Option Nat} {fin : Option Obj} {w0 : World} {m : Nat} {news : List Value} (hr : ∀ g, row = some g → g < w0.heap.size) : (NewCells w0 m news).keeps (AppR row fin) := by
  rintro x W W' ⟨p, c, rfl, hp, hc⟩ hR
  exact ⟨p, c, rfl, hp, fun j u hu => AppR.cell hR (hc j u hu) fun e => by
    rw [add_block] at e
    have := hr p e.symm
    omega⟩

/-- What an append answers. -/
def AppHeld (w0 : World) (base : Nat) (e : TypeId) (size : Nat) (row : Option Nat) (fin : Option Obj) (n : Nat) (xs : List Value) : Held := fun v' W' =>
  W'.ownsRow base e size v' n xs ∧ ((v'.ownBlock = row ∧ ∀ g, row = some g → W'.heap[g]? = fin) ∨ ∃ k, v'.ownBlock = some k ∧ w0.heap.size ≤ k)

theorem owns_same {w w' : World} {base : Nat} {e : TypeId} {size n : Nat} {v : Value} {xs : List Value} (h : w.ownsRow base e size v n xs) (hk : ∀ g, v.ownBlock = some g → w'.heap[g]? = w.heap[g]?) : w'.ownsRow base e size v n xs := by
  refine ⟨h.1, ?_⟩
  rcases h.2 with h2 | ⟨g, cap, cur, rfl, h3, h4, h5⟩
  · exact .inl h2
  · exact .inr ⟨g, cap, cur, rfl, h3, (hk g rfl).trans h4, h5⟩
theorem owns_lt {w : World} {base : Nat} {e : TypeId} {size n : Nat} {v : Value} {xs : List Value} (h : w.ownsRow base e size v n xs) {k : Nat} (hk : v.ownBlock = some k) : k < w.heap.size := by
  rcases h.2 with ⟨rfl, _⟩ | ⟨g, cap, cur, rfl, _, hg, _⟩
  · cases hk
  · obtain rfl : g = k := Option.some.inj hk
    exact (Array.getElem?_eq_some_iff.1 hg).1

theorem appHeld_keeps {w0 : World} {base : Nat} {e : TypeId} {size : Nat} {row : Option Nat} {fin : Option Obj} {n : Nat} {xs : List Value} (hr : ∀ g, row = some g → g < w0.heap.size) :
    (AppHeld w0 base e size row fin n xs).keeps (AppR row fin) := by
  rintro v W W' ⟨h1, h2⟩ hR
  rcases h2 with ⟨h2, h3⟩ | ⟨k, h2, h3⟩
  · have hs : ∀ g, row = some g → W'.heap[g]? = W.heap[g]? := fun g hg => by
      rcases hR.2 g hg with e | e
      · exact e
      · rw [e, h3 g hg]
    exact ⟨owns_same h1 fun g hg => hs g (h2 ▸ hg), .inl ⟨h2, fun g hg => (hs g hg).trans (h3 g hg)⟩⟩
  · exact ⟨owns_same h1 fun g hg => hR.1.block g (owns_lt h1 hg) fun e => by
      have := hr g e.symm
      rw [h2] at hg
      have := Option.some.inj hg
      omega, .inr ⟨k, h2, h3⟩⟩

section
variable {P : Program}
theorem run_append_app (t ty e : TypeId) (i : TypeInfo) (z : Value) (size bytes : Nat) (ht : P.underlying t = some (.slice e)) (hi : P.info? e = some i) (hz : i.zero = some z) (hsize : i.size = size) (hby : i.bytes = bytes) (hzs : z.cells.size = size) (hsz : 0 < size)
    (base : Nat) (w0 w : World) (v : Value) (n : Nat) (xs : List Value) (hown : w0.ownsRow base e size v n xs) (m c : Nat) (a : Addr) (news : List Value) (hl : news.length = m * size) (hnews : ∀ j u, news[j]? = some u → w.cell? (a.add j) = some u)
    (h1 : ∀ u ∈ news, u.oneCell' = true) (h63 : n + m ≤ maxLen) (hbytes : (n + m) * bytes ≤ 140737488355328) (hbase : base ≤ w0.heap.size) (hR : AppR v.ownBlock (appendedTo w0 v size n news) w0 w) :
    ∃ v' w', (Builtin.append_ #[t, t] ty #[v, .slice (some a) m c]).run P w = .ok v' w' ∧ AppR v.ownBlock (appendedTo w0 v size n news) w w' ∧ AppHeld w0 base e size v.ownBlock (appendedTo w0 v size n news) (n + m) (xs ++ news) v' w' := by
  have hown' : w.ownsRow base e size v n xs := by
    refine ⟨hown.1, ?_⟩
    rcases hown.2 with h2 | ⟨g, cap, cur, rfl, h3, h4, h5, h6, h7, h8⟩
    · exact .inl h2
    · rcases hR.2 g rfl with e' | e'
      · exact .inr ⟨g, cap, cur, rfl, h3, e'.trans h4, h5, h6, h7, h8⟩
      · refine .inr ⟨g, cap, rowWith cur (n * size) news, rfl, h3, e'.trans ?_, h5, h6, by rw [rowWith_size, h7], by rw [rowWith_take, h8]⟩
        unfold appendedTo
        simp only [h4]
  have hge := hR.1.size
  rcases hown'.2 with ⟨rfl, rfl⟩ | ⟨g, cap, cur, rfl, hbg, hg, hnc, hcm, hcs, htake⟩
  · obtain ⟨v', w', hr, h2, h3, h4, h5⟩ := run_append_own_at (P := P) w base t ty e i z size bytes ht hi hz hsize hby hzs hsz _ _ xs hown' a m c news hl hnews h1 h63 hbytes (by omega)
    refine ⟨v', w', hr, ⟨h3, fun g hg => by cases hg⟩, h2, ?_⟩
    rcases h5 with h5 | h5
    · exact .inl ⟨h5, fun g hg => by cases hg⟩
    · exact .inr ⟨_, h5, hge⟩
  · by_cases hroom : n + m ≤ cap
    · have hfit : n * i.size + news.length ≤ cur.size := by rw [hl, hcs, hsize, ← Nat.add_mul]; exact Nat.mul_le_mul_right _ hroom
      have hr := run_append_room (P := P) w t ty e i ht hi g n cap cur hg a m c news (by rw [hsize]; exact hl) hnews h1 hroom hfit
      have hset : (cur.toList.take (n * i.size) ++ news ++ cur.toList.drop (n * i.size + news.length)).toArray = rowWith cur (n * size) news := by
        unfold rowWith
        rw [hsize] at hfit ⊢
        rw [if_pos hfit]
      rw [hset] at hr
      have hnew : (w.setRow g (rowWith cur (n * size) news)).heap[g]? = some (.cells (rowWith cur (n * size) news) e (0, 0)) := setRow_heap w g cur _ e _ hg
      have hfin : (w.setRow g (rowWith cur (n * size) news)).heap[g]? = appendedTo w0 (.slice (some ⟨g, 0, none⟩) n cap) size n news := by
        rw [hnew]
        rcases hR.2 g rfl with e' | e'
        · unfold appendedTo
          simp only [← e', hg]
        · rw [hg] at e'
          unfold appendedTo at e' ⊢
          simp only at e' ⊢
          cases hq : w0.heap[g]? with
          | none => rw [hq] at e'; cases e'
          | some o =>
            rw [hq] at e'
            cases o <;> simp only [Option.some.injEq, reduceCtorEq, Obj.cells.injEq] at e' ⊢
            obtain ⟨rfl, rfl, rfl⟩ := e'
            exact ⟨rowWith_again _ _ _, rfl, rfl⟩
      refine ⟨_, _, hr, ⟨⟨rfl, rfl, rfl, by simp, fun k _ hk => setRow_other w g k _ (fun e => hk (by simp [Value.ownBlock, e]))⟩, fun k hk => ?_⟩, ⟨by rw [List.length_append, hown'.1, hl, Nat.add_mul], .inr ⟨g, cap, _, rfl, hbg, hnew, hroom, hcm, by rw [rowWith_size, hcs], ?_⟩⟩, .inl ⟨rfl, fun k hk => ?_⟩⟩
      · obtain rfl : g = k := Option.some.inj hk
        exact .inr hfin
      · unfold rowWith
        rw [hsize] at hfit
        rw [if_pos hfit, Nat.add_mul, ← hl]
        have : (cur.toList.take (n * size) ++ news).length = n * size + news.length := by simp; omega
        show (cur.toList.take (n * size) ++ news ++ cur.toList.drop (n * size + news.length)).take _ = _
        rw [List.take_append_of_le_length (by omega), List.take_of_length_le (by omega), htake]
      · obtain rfl : g = k := Option.some.inj hk
        exact hfin
    · obtain ⟨v', w', hr, h2, h3, h4, h5⟩ := run_append_own_at (P := P) w base t ty e i z size bytes ht hi hz hsize hby hzs hsz _ _ xs hown' a m c news hl hnews h1 h63 hbytes (by omega)
      have holds : ∀ j u, xs[j]? = some u → w.cell? ((⟨g, 0, none⟩ : Addr).add j) = some u := hown'.cells (g := g) rfl
      have hq := run_append_grow (P := P) w t ty e i z ht hi hz ⟨g, 0, none⟩ n cap xs (by rw [hsize]; exact hown'.1) holds a m c news (by rw [hsize]; exact hl) hnews (by omega) (by simp only [maxLen] at h63; omega) (growslice_fits (by omega) (by rw [hby]; exact hbytes))
      rw [hq] at hr
      obtain ⟨rfl, rfl⟩ := Result.ok.inj hr
      refine ⟨_, _, hq, ⟨h3, fun k hk => ?_⟩, h2, .inr ⟨_, rfl, hge⟩⟩
      obtain rfl : g = k := Option.some.inj hk
      exact .inl (heap_alloc_old w.drew _ (by exact (Array.getElem?_eq_some_iff.1 hg).1))

variable {ops : Array Oper} {w0 : World} {k : Nat} {ds : List Deferred} {F : Act → World → Prop} {rest : List Oper} {H : List (Tmp × Held)} {A : Act} {o : Oper}

/-- The new cells of an append are laid: its slot is hidden. -/
theorem lex_cells {d : Tmp} {row : Option Nat} {fin : Option Obj} {m : Nat} {news : List Value} (hrow : ∀ g, row = some g → g < w0.heap.size) (hw : Region.wanted o (yielded ops A.tmps) = true) (hns : ∀ cs b, o.op ≠ .select cs b) (hl : looksFree ops H o = true) (hd : o.dst = some d) (E : TypeId)
    (hr : ∀ w, (execOp A.eval o).run P w = .ok (.value (.slice (some ⟨w.heap.size, 0, none⟩) m m)) (w.alloc (.cells news.toArray E))) (h : lexAt (AppR row fin) P ops w0 k ds F rest ((d, NewCells w0 m news) :: H) A) :
    lexAt (AppR row fin) P ops w0 k ds F (o :: rest) H A := by
  refine lex_make (newCells_keeps hrow) hw hns hl hd (fun w hR => ⟨_, _, hr w, ?_, w.heap.size, m, rfl, hR.1.size, fun j u hu => ?_⟩) h
  · exact ⟨World.grownBy_alloc w _ _, fun g hg => .inl (heap_alloc_old w _ (Nat.lt_of_lt_of_le (hrow g hg) hR.1.size))⟩
  · have hadd : (⟨w.heap.size, 0, none⟩ : Addr).add j = ⟨w.heap.size, j, none⟩ := by unfold Addr.add; split <;> simp_all
    rw [hadd, World.cell?_alloc_new]
    simpa using hu

/-- An append onto the row, its new cells in a hidden slot: the answer is hidden. -/
theorem lex_app {s x d : Tmp} {t e : TypeId} {i : TypeInfo} {z : Value} {size bytes base n m : Nat} {v : Value} {xs news : List Value} (hgd : o.guard = none) (ho : o.op = .call { callee := .builtin .append, args := #[.tmp s, .tmp x], argTypes := #[t, t] }) (hd : o.dst = some d)
    (ht : P.underlying t = some (.slice e)) (hi : P.info? e = some i) (hz : i.zero = some z) (hsize : i.size = size) (hby : i.bytes = bytes) (hzs : z.cells.size = size) (hsz : 0 < size)
    (hsn : heldBy H s = none) (hs : A.eval (.tmp s) = v) (hx : heldBy H x = some (NewCells w0 m news)) (hown : w0.ownsRow base e size v n xs) (hl : news.length = m * size)
    (h1 : ∀ u ∈ news, u.oneCell' = true) (h63 : n + m ≤ maxLen) (hbytes : (n + m) * bytes ≤ 140737488355328) (hbase : base ≤ w0.heap.size)
    (h : lexAt (AppR v.ownBlock (appendedTo w0 v size n news)) P ops w0 k ds F rest ((d, AppHeld w0 base e size v.ownBlock (appendedTo w0 v size n news) (n + m) (xs ++ news)) :: H) A) :
    lexAt (AppR v.ownBlock (appendedTo w0 v size n news)) P ops w0 k ds F (o :: rest) H A := by
  refine lex_any (appHeld_keeps fun g hg => owns_lt hown hg) (fun c w hR hf => .inr ⟨?_, fun K Q' hK => ?_⟩) hd h
  · unfold Region.wanted
    rw [hgd]
  · have hes := hf s (by simp [Oper.looksAt, ho, hgd, Op.operands, Call.operands])
    have hex := hf x (by simp [Oper.looksAt, ho, hgd, Op.operands, Call.operands])
    unfold fits at hes hex
    rw [hsn] at hes
    rw [hx] at hex
    obtain ⟨p, c', hex, hp, hc⟩ := hex
    simp only at hes
    obtain ⟨v', w', hr, h2, h3⟩ := run_append_app (P := P) t o.type e i z size bytes ht hi hz hsize hby hzs hsz base w0 w v n xs hown m c' ⟨p, 0, none⟩ news hl hc h1 h63 hbytes hbase hR
    unfold Oper.wp execOp
    simp only [ho, resolve, invoke, builtin, Sem.run_bind, Sem.run_pure, Result.andThen_ok, List.map_toArray, List.map_cons, List.map_nil, hes, hs, hex, hr]
    exact hK _ _ h2 h3
end
end Go.Proofs.YtgehgjalkponfaaGreatDoor
