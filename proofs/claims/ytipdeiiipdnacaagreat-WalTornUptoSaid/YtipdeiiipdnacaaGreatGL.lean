/- The law's fixed cases: what they come to, in plain words. The law's fixed cases: the walk. -/
import Derived.Test.YtipdeiiipdnacaaGreatGE
import Derived.KernelRfl
namespace Go.Proofs.YtipdeiiipdnacaaGreat
open Go.RowKit Go.Maps Go.WideMaps

def wkA : List UInt8 := headB magicB 2 0
def wkB : List UInt8 := headB magicB 1 0
def wkR : Rc := ⟨2, [], 5, 0, 0⟩
def wkQ : Rc := ⟨0, [([97], [120])], 1, 0, 2⟩
def wkS : List UInt8 := (walPut 2 [] [wkR]).1
def wkT : List UInt8 := (walPut 1 [] [wkQ]).1
theorem wk_put2 : walPut 2 [] [wkR] = (wkS, some [], 0) := by kernel_rfl
theorem wk_len2 : wkS.length = 7 := by kernel_rfl
theorem wk_s3 : wkS.take 3 = [2, 2, 5] := by kernel_rfl
theorem wk_put1 : walPut 1 [] [wkQ] = (wkT, some [], 0) := by kernel_rfl
theorem wk_len1 : wkT.length = 186 := by kernel_rfl
theorem wk_read2 : walRead (wkA ++ wkS) = (some ⟨2, 0, [wkR], [], 17, false⟩, 0) := by kernel_rfl
theorem wk_read3 : walRead (wkA ++ [2, 2, 5]) = (some ⟨2, 0, [], [], 10, true⟩, 0) := by kernel_rfl
theorem wk_read1 : walRead (wkB ++ wkT) = (some ⟨1, 0, [wkQ], [], 196, false⟩, 0) := by kernel_rfl
end Go.Proofs.YtipdeiiipdnacaaGreat
namespace Go.Proofs.YtipdeiiipdnacaaGreat
open Go.RowKit Go.Maps Go.WideMaps
attribute [local go_sem] bs_toList bs_size

theorem keys_nil (W : World) : KeysAt W (.slice none 0 0) [] := ⟨none, 0, rfl, by simp, fun i x hx => by simp at hx⟩
theorem labs_nil (W : World) : LabsAt W (.slice none 0 0) [] := ⟨none, 0, rfl, by simp, fun i x hx => by simp at hx⟩
theorem recs_one {W : World} {b : Nat} {sl : Value} {x : Rc} {T : TypeId} (hk : Blk W b T #[.int .i64 x.kind, sl, .int .i64 x.t, .int .i64 x.u, .int .u64 (x.v : Int)]) (hok : x.ok) (hL : LabsAt W sl x.labels) : RecsAt W (.slice (some ⟨b, 0, none⟩) 1 1) [x] := by
  obtain ⟨⟨c0, c1, c2, c3, c4⟩, _⟩ := cells5 hk
  refine ⟨some ⟨b, 0, none⟩, 1, rfl, by simp, fun i y hy => ?_⟩
  match i, hy with
  | 0, hy =>
    obtain rfl : x = y := by simpa using hy
    exact ⟨b, 0, rfl, hok, sl, c0, c1, hL, c2, c3, c4⟩
  | i + 1, hy => simp at hy
theorem wkR_ok : wkR.ok := by unfold Rc.ok wkR; simp
theorem wkQ_ok : wkQ.ok := by unfold Rc.ok wkQ; simp
theorem blk_new2 (W : World) (o : Obj) (T : TypeId) (cs : Array Value) : Blk ((W.alloc o).alloc (.cells cs T)) (W.heap.size + 1) T cs := by
  have := Blk.new (W.alloc o) T cs
  rwa [World.size_alloc] at this
theorem blk_new3 (W : World) (o o2 : Obj) (T : TypeId) (cs : Array Value) : Blk (((W.alloc o).alloc o2).alloc (.cells cs T)) (W.heap.size + 1 + 1) T cs := by
  have := blk_new2 (W.alloc o) o2 T cs
  rwa [World.size_alloc] at this
set_option maxRecDepth 100000 in
theorem put2_is {W W' : World} {kv : Value} {e : Ending} (h : PutIs W 2 kv [] [wkR] e W') : Below W.heap.size W W' ∧ ∃ a c, e = .returned (.tuple #[.string (bs wkS), .agg #[.int .i64 2, .slice a 0 c], .int .i64 0]) := by
  unfold PutIs at h
  rw [wk_put2] at h
  obtain ⟨hb, kv', he, hk, _⟩ := h
  obtain ⟨a, c, rfl, _⟩ := hk
  exact ⟨hb, a, c, he⟩
set_option maxRecDepth 100000 in
theorem put1_is {W W' : World} {kv : Value} {e : Ending} (h : PutIs W 1 kv [] [wkQ] e W') : Below W.heap.size W W' ∧ ∃ a c, e = .returned (.tuple #[.string (bs wkT), .agg #[.int .i64 1, .slice a 0 c], .int .i64 0]) := by
  unfold PutIs at h
  rw [wk_put1] at h
  obtain ⟨hb, kv', he, hk, _⟩ := h
  obtain ⟨a, c, rfl, _⟩ := hk
  exact ⟨hb, a, c, he⟩
set_option maxRecDepth 100000 in
theorem read2_is {W' : World} {e : Ending} (h : ReadIs (wkA ++ wkS) e W') : ∃ b o c a2 c2, e = .returned (.tuple #[.agg #[.int .i64 0, .slice (some ⟨b, o, none⟩) 1 c, .int .i64 17, .bool false, .int .i64 2, .slice a2 0 c2], .int .i64 0]) ∧ W'.cell? ⟨b, o + 2, none⟩ = some (.int .i64 5) := by
  unfold ReadIs at h
  rw [wk_read2] at h
  obtain ⟨rv, kv, he, ⟨a, c, rfl, _, hr⟩, ⟨a2, c2, rfl, _⟩⟩ := h
  obtain ⟨b, o, rfl, _, sl, h1, h2, h3, h4, _⟩ := hr 0 wkR rfl
  exact ⟨b, o, c, a2, c2, he, h4⟩
set_option maxRecDepth 100000 in
theorem read3_is {W' : World} {e : Ending} (h : ReadIs (wkA ++ [2, 2, 5]) e W') : ∃ a c a2 c2, e = .returned (.tuple #[.agg #[.int .i64 0, .slice a 0 c, .int .i64 10, .bool true, .int .i64 2, .slice a2 0 c2], .int .i64 0]) := by
  unfold ReadIs at h
  rw [wk_read3] at h
  obtain ⟨rv, kv, he, ⟨a, c, rfl, _, hr⟩, ⟨a2, c2, rfl, _⟩⟩ := h
  exact ⟨a, c, a2, c2, he⟩
set_option maxRecDepth 100000 in
theorem read1_is {W' : World} {e : Ending} (h : ReadIs (wkB ++ wkT) e W') : ∃ b o c a2 c2, e = .returned (.tuple #[.agg #[.int .i64 0, .slice (some ⟨b, o, none⟩) 1 c, .int .i64 196, .bool false, .int .i64 1, .slice a2 0 c2], .int .i64 0]) ∧ W'.cell? ⟨b, o + 4, none⟩ = some (.int .u64 2) := by
  unfold ReadIs at h
  rw [wk_read1] at h
  obtain ⟨rv, kv, he, ⟨a, c, rfl, _, hr⟩, ⟨a2, c2, rfl, _⟩⟩ := h
  obtain ⟨b, o, rfl, _, sl, h1, h2, h3, h4, h5, h6⟩ := hr 0 wkQ rfl
  exact ⟨b, o, c, a2, c2, he, h6⟩
theorem labs_one {W : World} {b : Nat} {T : TypeId} {x : Lb} (hk : Blk W b T #[.string (bs x.1), .string (bs x.2)]) (h1 : x.1.length ≤ 1048576) (h2 : x.2.length ≤ 1048576) : LabsAt W (.slice (some ⟨b, 0, none⟩) 1 1) [x] := by
  obtain ⟨⟨c0, c1⟩, _⟩ := cells2 hk
  refine ⟨some ⟨b, 0, none⟩, 1, rfl, by simp, fun i y hy => ?_⟩
  match i, hy with
  | 0, hy =>
    obtain rfl : x = y := by simpa using hy
    exact ⟨h1, h2, b, 0, rfl, c0, c1⟩
  | i + 1, hy => simp at hy
theorem wk_lenA : wkA.length = 10 := by kernel_rfl
theorem wk_lenB : wkB.length = 10 := by kernel_rfl

set_option maxRecDepth 100000 in
set_option maxHeartbeats 8000000 in
theorem works_any (w : World) : Calls Tryz.prog 7 #[] w fun e w' => e = .returned (.bool true) ∧ Below w.heap.size w w' := by
  have qB2 := Lib.hid (fun W => Begin_any 2 W)
  rw [show beginV 2 = .tuple #[.string (bs wkA), .agg #[.int .i64 2, .slice none 0 0], .int .i64 0] from rfl] at qB2
  have qB4 := Lib.hid (fun W => Begin_any 4 W)
  rw [show beginV 4 = .tuple #[.string ⟨#[]⟩, .agg #[.int .i64 0, .slice none 0 0], .int .i64 1] from rfl] at qB4
  have qB1 := Lib.hid (fun W => Begin_any 1 W)
  rw [show beginV 1 = .tuple #[.string (bs wkB), .agg #[.int .i64 1, .slice none 0 0], .int .i64 0] from rfl] at qB1
  have lA := wk_lenA
  have lB := wk_lenB
  have lS := wk_len2
  have lT := wk_len1
  have a1 : ∀ W, (Op.stringOp .add (bs wkA) (bs wkS)).run Tryz.prog W = .ok (.string (bs (wkA ++ wkS))) W := fun W => run_add_bs (P := Tryz.prog) _ _ (by rw [lA, lS]; omega) W
  have a2 : ∀ W, (Op.stringOp .add (bs wkA) (bs [2, 2, 5])).run Tryz.prog W = .ok (.string (bs (wkA ++ [2, 2, 5]))) W := fun W => run_add_bs (P := Tryz.prog) _ _ (by rw [lA]; simp) W
  have a3 : ∀ W, (Op.stringOp .add (bs wkB) (bs wkT)).run Tryz.prog W = .ok (.string (bs (wkB ++ wkT))) W := fun W => run_add_bs (P := Tryz.prog) _ _ (by rw [lB, lT]; omega) W
  have e3 : (bs wkS).extract 0 3 = bs [2, 2, 5] := by rw [bs_extract, List.drop_zero, Nat.sub_zero, wk_s3]
  have qR2 := Lib.hid (fun W => Read_any (wkA ++ wkS) W (by rw [List.length_append, lA, lS]; omega))
  have qR3 := Lib.hid (fun W => Read_any (wkA ++ [2, 2, 5]) W (by rw [List.length_append, lA]; simp))
  have qR1 := Lib.hid (fun W => Read_any (wkB ++ wkT) W (by rw [List.length_append, lB, lT]; omega))
  go_enter Tryz.func7, Tryz.ntmps7
  go_wp2_with fail
  refine (qB2.out _).mono ?_
  rintro e W1 ⟨rfl, b1⟩
  have k1 := Blk.new W1 32 #[.int .i64 2, .slice none 0 0]
  obtain ⟨⟨d0, d1⟩, _⟩ := cells2 k1
  have qP := Lib.hid (Put_any 2 (.slice none 0 0) (.slice (some ⟨W1.heap.size + 1, 0, none⟩) 1 1) [] [wkR] ((W1.alloc (.cells #[.int .i64 2, .slice none 0 0] 32)).alloc (.cells #[.int .i64 2, .slice none 0 0, .int .i64 5, .int .i64 0, .int .u64 0] 51)) (keys_nil _) (recs_one (x := wkR) (blk_new2 W1 _ _ _) wkR_ok (labs_nil _)) (by simp) (by simp) (by omega) (by omega))
  rw [show writerV 2 (.slice none 0 0) = .agg #[.int .i64 2, .slice none 0 0] from rfl] at qP
  have b2 := ((one_alloc W1 (.cells #[.int .i64 2, .slice none 0 0] 32)).alloc (by simp) (.cells #[.int .i64 2, .slice none 0 0, .int .i64 5, .int .i64 0, .int .u64 0] 51))
  go_wp2_with fail
  refine qP.out.mono ?_
  rintro e W3 hP
  obtain ⟨b3, p1, p2, rfl⟩ := put2_is hP
  have B3 := b1.trans ((b2.trans (b3.mono b2.size)).mono b1.size)
  clear hP qP d0 d1 k1 b1 b2 b3
  generalize W1.heap.size = g1 at *
  have b4 := one_alloc W3 (.cells #[.int .i64 2, .slice p1 0 p2] 32)
  go_wp2_with fail
  generalize W3.alloc (.cells #[.int .i64 2, .slice p1 0 p2] 32) = W4 at *
  refine (qR2.out _).mono ?_
  rintro e W5 ⟨hR, b5⟩
  obtain ⟨xb, xo, xc, xa2, xc2, rfl, cx⟩ := read2_is hR
  have B5 := B3.trans ((b4.trans (b5.mono b4.size)).mono B3.size)
  have kx := Blk.new W5 34 #[.int .i64 0, .slice (some ⟨xb, xo, none⟩) 1 xc, .int .i64 17, .bool false, .int .i64 2, .slice xa2 0 xc2]
  have b6 := one_alloc W5 (.cells #[.int .i64 0, .slice (some ⟨xb, xo, none⟩) 1 xc, .int .i64 17, .bool false, .int .i64 2, .slice xa2 0 xc2] 34)
  have cx6 := (b6.cell (World.block_lt_of_cell? _ _ cx)).trans cx
  generalize W3.heap.size = g3 at *
  clear hR b4 b5 cx qR2 a1
  go_wp2_with fail
  generalize W5.alloc (.cells #[.int .i64 0, .slice (some ⟨xb, xo, none⟩) 1 xc, .int .i64 17, .bool false, .int .i64 2, .slice xa2 0 xc2] 34) = W6 at *
  refine (qR3.out _).mono ?_
  rintro e W7 ⟨hR, b7⟩
  obtain ⟨ya, yc, ya2, yc2, rfl⟩ := read3_is hR
  have B7 := B5.trans ((b6.trans (b7.mono b6.size)).mono B5.size)
  have ky := Blk.new W7 34 #[.int .i64 0, .slice ya 0 yc, .int .i64 10, .bool true, .int .i64 2, .slice ya2 0 yc2]
  have b8 := one_alloc W7 (.cells #[.int .i64 0, .slice ya 0 yc, .int .i64 10, .bool true, .int .i64 2, .slice ya2 0 yc2] 34)
  have b68 := b7.trans (b8.mono b7.size)
  have cx8 := (b68.cell (World.block_lt_of_cell? _ _ cx6)).trans cx6
  have kx8 := Blk.below kx b68 kx.lt
  generalize W5.heap.size = g5 at *
  clear hR b6 b7 qR3 a2 cx6 kx b68
  go_wp2_with fail
  generalize W7.alloc (.cells #[.int .i64 0, .slice ya 0 yc, .int .i64 10, .bool true, .int .i64 2, .slice ya2 0 yc2] 34) = W8 at *
  refine (qB4.out _).mono ?_
  rintro e W9 ⟨rfl, b9⟩
  have b10 := one_alloc W9 (.cells #[.int .i64 0, .slice none 0 0] 32)
  have b810 := b9.trans (b10.mono b9.size)
  have B10 := B7.trans ((b8.trans (b810.mono b8.size)).mono B7.size)
  have cx10 := (b810.cell (World.block_lt_of_cell? _ _ cx8)).trans cx8
  have kx10 := Blk.below kx8 b810 kx8.lt
  have ky10 := Blk.below ky b810 ky.lt
  generalize W7.heap.size = g7 at *
  clear b8 b9 b10 b810 cx8 kx8 ky qB4
  go_wp2_with fail
  generalize W9.alloc (.cells #[.int .i64 0, .slice none 0 0] 32) = W10 at *
  refine (qB1.out _).mono ?_
  rintro e W11 ⟨rfl, b11⟩
  have k11 := Blk.new W11 32 #[.int .i64 1, .slice none 0 0]
  obtain ⟨⟨d0, d1⟩, _⟩ := cells2 k11
  have qP := Lib.hid (Put_any 1 (.slice none 0 0) (.slice (some ⟨W11.heap.size + 1 + 1, 0, none⟩) 1 1) [] [wkQ] (((W11.alloc (.cells #[.int .i64 1, .slice none 0 0] 32)).alloc (.cells #[.string (bs [97]), .string (bs [120])] 53)).alloc (.cells #[.int .i64 0, .slice (some ⟨W11.heap.size + 1, 0, none⟩) 1 1, .int .i64 1, .int .i64 0, .int .u64 2] 51)) (keys_nil _) (recs_one (x := wkQ) (blk_new3 W11 _ _ _ _) wkQ_ok (labs_one (x := ([97], [120])) ((blk_new2 W11 _ _ _).alloc _) (by simp) (by simp))) (by simp) (by simp) (by omega) (by omega))
  rw [show writerV 1 (.slice none 0 0) = .agg #[.int .i64 1, .slice none 0 0] from rfl] at qP
  have b12 := (((one_alloc W11 (.cells #[.int .i64 1, .slice none 0 0] 32)).alloc (by simp) (.cells #[.string (bs [97]), .string (bs [120])] 53)).alloc (by simp; omega) (.cells #[.int .i64 0, .slice (some ⟨W11.heap.size + 1, 0, none⟩) 1 1, .int .i64 1, .int .i64 0, .int .u64 2] 51))
  go_wp2_with fail
  refine qP.out.mono ?_
  rintro e W13 hP
  obtain ⟨b13, p3, p4, rfl⟩ := put1_is hP
  have b14 := one_alloc W13 (.cells #[.int .i64 1, .slice p3 0 p4] 32)
  have b1013 := b11.trans ((b12.trans (b13.mono b12.size)).mono b11.size)
  have b1014 := b1013.trans (b14.mono b1013.size)
  have B14 := B10.trans (b1014.mono B10.size)
  have cx14 := (b1014.cell (World.block_lt_of_cell? _ _ cx10)).trans cx10
  have kx14 := Blk.below kx10 b1014 kx10.lt
  have ky14 := Blk.below ky10 b1014 ky10.lt
  generalize W11.heap.size = g11 at *
  clear b11 b12 b13 b14 b1013 b1014 cx10 kx10 ky10 qB1 hP qP d0 d1 k11
  go_wp2_with fail
  generalize W13.alloc (.cells #[.int .i64 1, .slice p3 0 p4] 32) = W14 at *
  generalize W13.heap.size = g13 at *
  refine (qR1.out _).mono ?_
  rintro e W15 ⟨hR, b15⟩
  obtain ⟨zb, zo, zc, za2, zc2, rfl, cz⟩ := read1_is hR
  have b16 := one_alloc W15 (.cells #[.int .i64 0, .slice (some ⟨zb, zo, none⟩) 1 zc, .int .i64 196, .bool false, .int .i64 1, .slice za2 0 zc2] 34)
  have kz := Blk.new W15 34 #[.int .i64 0, .slice (some ⟨zb, zo, none⟩) 1 zc, .int .i64 196, .bool false, .int .i64 1, .slice za2 0 zc2]
  have b1416 := b15.trans (b16.mono b15.size)
  have B16 := B14.trans (b1416.mono B14.size)
  have cz16 := (b16.cell (World.block_lt_of_cell? _ _ cz)).trans cz
  have cx16 := (b1416.cell (World.block_lt_of_cell? _ _ cx14)).trans cx14
  have kx16 := Blk.below kx14 b1416 kx14.lt
  have ky16 := Blk.below ky14 b1416 ky14.lt
  clear B3 B5 B7 B10 B14 b15 b16 b1416 cx14 kx14 ky14 hR qR1 a3 cz
  go_wp2_with fail
  generalize W15.alloc (.cells #[.int .i64 0, .slice (some ⟨zb, zo, none⟩) 1 zc, .int .i64 196, .bool false, .int .i64 1, .slice za2 0 zc2] 34) = W16 at *
  generalize W15.heap.size = g15 at *
  have x1 := grow_cell (cells6 kx16).1.2.1
  have x2 := grow_cell (cells6 kx16).1.2.2.1
  have x3 := grow_cell (cells6 kx16).1.2.2.2.1
  have xT := grow_cell cx16
  have y1 := grow_cell (cells6 ky16).1.2.1
  have y2 := grow_cell (cells6 ky16).1.2.2.1
  have y3 := grow_cell (cells6 ky16).1.2.2.2.1
  have z1 := grow_cell (cells6 kz).1.2.1
  have zV := grow_cell cz16
  clear kx16 ky16 kz cx16 cz16
  refine wp_region_at (R := GrowR) (by kernel_rfl) (by kernel_rfl) ?_
  simp only [List.append_eq, List.cons_append, List.nil_append]
  (refine lex_one (by kernel_rfl) (by kernel_rfl) (by kernel_rfl) (fun K hK => ?_); go_big_quiet_step (fail); refine wpQuiet_nil (hK _ ?_); clear hK K); (refine lex_one (by kernel_rfl) (by kernel_rfl) (by kernel_rfl) (fun K hK => ?_); go_big_quiet_step (fail); refine wpQuiet_nil (hK _ ?_); clear hK K); (refine lex_one (by kernel_rfl) (by kernel_rfl) (by kernel_rfl) (fun K hK => ?_); go_big_quiet_step (fail); refine wpQuiet_nil (hK _ ?_); clear hK K); (refine lex_one (by kernel_rfl) (by kernel_rfl) (by kernel_rfl) (fun K hK => ?_); go_big_quiet_step (fail); refine wpQuiet_nil (hK _ ?_); clear hK K); (refine lex_one (by kernel_rfl) (by kernel_rfl) (by kernel_rfl) (fun K hK => ?_); go_big_quiet_step (fail); refine wpQuiet_nil (hK _ ?_); clear hK K); (refine lex_one (by kernel_rfl) (by kernel_rfl) (by kernel_rfl) (fun K hK => ?_); go_big_quiet_step (fail); refine wpQuiet_nil (hK _ ?_); clear hK K); (refine lex_one (by kernel_rfl) (by kernel_rfl) (by kernel_rfl) (fun K hK => ?_); go_big_quiet_step (fail); refine wpQuiet_nil (hK _ ?_); clear hK K); (refine lex_one (by kernel_rfl) (by kernel_rfl) (by kernel_rfl) (fun K hK => ?_); go_big_quiet_step (fail); refine wpQuiet_nil (hK _ ?_); clear hK K); (refine lex_one (by kernel_rfl) (by kernel_rfl) (by kernel_rfl) (fun K hK => ?_); go_big_quiet_step (fail); refine wpQuiet_nil (hK _ ?_); clear hK K); (refine lex_one (by kernel_rfl) (by kernel_rfl) (by kernel_rfl) (fun K hK => ?_); go_big_quiet_step (fail); refine wpQuiet_nil (hK _ ?_); clear hK K); (refine lex_one (by kernel_rfl) (by kernel_rfl) (by kernel_rfl) (fun K hK => ?_); go_big_quiet_step (fail); refine wpQuiet_nil (hK _ ?_); clear hK K); (refine lex_one (by kernel_rfl) (by kernel_rfl) (by kernel_rfl) (fun K hK => ?_); go_big_quiet_step (fail); refine wpQuiet_nil (hK _ ?_); clear hK K); (refine lex_one (by kernel_rfl) (by kernel_rfl) (by kernel_rfl) (fun K hK => ?_); go_big_quiet_step (fail); refine wpQuiet_nil (hK _ ?_); clear hK K); (refine lex_one (by kernel_rfl) (by kernel_rfl) (by kernel_rfl) (fun K hK => ?_); go_big_quiet_step (fail); refine wpQuiet_nil (hK _ ?_); clear hK K); (refine lex_one (by kernel_rfl) (by kernel_rfl) (by kernel_rfl) (fun K hK => ?_); go_big_quiet_step (fail); refine wpQuiet_nil (hK _ ?_); clear hK K); (refine lex_one (by kernel_rfl) (by kernel_rfl) (by kernel_rfl) (fun K hK => ?_); go_big_quiet_step (fail); refine wpQuiet_nil (hK _ ?_); clear hK K); (refine lex_one (by kernel_rfl) (by kernel_rfl) (by kernel_rfl) (fun K hK => ?_); go_big_quiet_step (fail); refine wpQuiet_nil (hK _ ?_); clear hK K); (refine lex_one (by kernel_rfl) (by kernel_rfl) (by kernel_rfl) (fun K hK => ?_); go_big_quiet_step (fail); refine wpQuiet_nil (hK _ ?_); clear hK K); (refine lex_one (by kernel_rfl) (by kernel_rfl) (by kernel_rfl) (fun K hK => ?_); go_big_quiet_step (fail); refine wpQuiet_nil (hK _ ?_); clear hK K); (refine lex_one (by kernel_rfl) (by kernel_rfl) (by kernel_rfl) (fun K hK => ?_); go_big_quiet_step (fail); refine wpQuiet_nil (hK _ ?_); clear hK K); (refine lex_one (by kernel_rfl) (by kernel_rfl) (by kernel_rfl) (fun K hK => ?_); go_big_quiet_step (fail); refine wpQuiet_nil (hK _ ?_); clear hK K); (refine lex_one (by kernel_rfl) (by kernel_rfl) (by kernel_rfl) (fun K hK => ?_); go_big_quiet_step (fail); refine wpQuiet_nil (hK _ ?_); clear hK K); (refine lex_one (by kernel_rfl) (by kernel_rfl) (by kernel_rfl) (fun K hK => ?_); go_big_quiet_step (fail); refine wpQuiet_nil (hK _ ?_); clear hK K); (refine lex_one (by kernel_rfl) (by kernel_rfl) (by kernel_rfl) (fun K hK => ?_); go_big_quiet_step (fail); refine wpQuiet_nil (hK _ ?_); clear hK K); (refine lex_one (by kernel_rfl) (by kernel_rfl) (by kernel_rfl) (fun K hK => ?_); go_big_quiet_step (fail); refine wpQuiet_nil (hK _ ?_); clear hK K); (refine lex_one (by kernel_rfl) (by kernel_rfl) (by kernel_rfl) (fun K hK => ?_); go_big_quiet_step (fail); refine wpQuiet_nil (hK _ ?_); clear hK K); (refine lex_one (by kernel_rfl) (by kernel_rfl) (by kernel_rfl) (fun K hK => ?_); go_big_quiet_step (fail); refine wpQuiet_nil (hK _ ?_); clear hK K); (refine lex_one (by kernel_rfl) (by kernel_rfl) (by kernel_rfl) (fun K hK => ?_); go_big_quiet_step (fail); refine wpQuiet_nil (hK _ ?_); clear hK K); (refine lex_one (by kernel_rfl) (by kernel_rfl) (by kernel_rfl) (fun K hK => ?_); go_big_quiet_step (fail); refine wpQuiet_nil (hK _ ?_); clear hK K); (refine lex_one (by kernel_rfl) (by kernel_rfl) (by kernel_rfl) (fun K hK => ?_); go_big_quiet_step (fail); refine wpQuiet_nil (hK _ ?_); clear hK K); (refine lex_one (by kernel_rfl) (by kernel_rfl) (by kernel_rfl) (fun K hK => ?_); go_big_quiet_step (fail); refine wpQuiet_nil (hK _ ?_); clear hK K); (refine lex_one (by kernel_rfl) (by kernel_rfl) (by kernel_rfl) (fun K hK => ?_); go_big_quiet_step (fail); refine wpQuiet_nil (hK _ ?_); clear hK K)
  (refine lex_val (v := .int .i64 7) (by kernel_rfl) (fun _ _ h => by cases h) (by kernel_rfl) (by kernel_rfl) (fun _ _ => by go_simp) (lex_put (type := 0) (pos := "") (fun K hK => ?_)); go_big_quiet_step (fail); refine wpQuiet_nil (hK _ ?_); clear hK K)
  (refine lex_one (by kernel_rfl) (by kernel_rfl) (by kernel_rfl) (fun K hK => ?_); go_big_quiet_step (fail); refine wpQuiet_nil (hK _ ?_); clear hK K); (refine lex_one (by kernel_rfl) (by kernel_rfl) (by kernel_rfl) (fun K hK => ?_); go_big_quiet_step (fail); refine wpQuiet_nil (hK _ ?_); clear hK K); (refine lex_one (by kernel_rfl) (by kernel_rfl) (by kernel_rfl) (fun K hK => ?_); go_big_quiet_step (fail); refine wpQuiet_nil (hK _ ?_); clear hK K); (refine lex_one (by kernel_rfl) (by kernel_rfl) (by kernel_rfl) (fun K hK => ?_); go_big_quiet_step (fail); refine wpQuiet_nil (hK _ ?_); clear hK K)
  (refine lex_val (v := .string (bs [2, 2, 5])) (by kernel_rfl) (fun _ _ h => by cases h) (by kernel_rfl) (by kernel_rfl) (fun _ _ => by go_simp) (lex_put (type := 0) (pos := "") (fun K hK => ?_)); go_big_quiet_step (fail); refine wpQuiet_nil (hK _ ?_); clear hK K)
  (refine lex_make (rowOf_keeps [2, 2, 5]) (by kernel_rfl) (fun _ _ h => by cases h) (by kernel_rfl) rfl (make_bytes 5 [2, 2, 5] fun W => by go_simp) ?_)
  (refine lex_turn (by kernel_rfl) rfl rfl (by kernel_rfl) (by kernel_rfl) (turn_bytes 54 9 5 Tryz.underlying54 Tryz.underlying5 Tryz.underlying9 [2, 2, 5]) (lex_put (type := 0) (pos := "") (fun K hK => ?_)); go_big_quiet_step (fail); refine wpQuiet_nil (hK _ ?_); clear hK K)
  (refine lex_one (by kernel_rfl) (by kernel_rfl) (by kernel_rfl) (fun K hK => ?_); go_big_quiet_step (fail); refine wpQuiet_nil (hK _ ?_); clear hK K); (refine lex_one (by kernel_rfl) (by kernel_rfl) (by kernel_rfl) (fun K hK => ?_); go_big_quiet_step (fail); refine wpQuiet_nil (hK _ ?_); clear hK K); (refine lex_one (by kernel_rfl) (by kernel_rfl) (by kernel_rfl) (fun K hK => ?_); go_big_quiet_step (fail); refine wpQuiet_nil (hK _ ?_); clear hK K); (refine lex_one (by kernel_rfl) (by kernel_rfl) (by kernel_rfl) (fun K hK => ?_); go_big_quiet_step (fail); refine wpQuiet_nil (hK _ ?_); clear hK K); (refine lex_one (by kernel_rfl) (by kernel_rfl) (by kernel_rfl) (fun K hK => ?_); go_big_quiet_step (fail); refine wpQuiet_nil (hK _ ?_); clear hK K)
  (refine lex_val (v := .int .i64 1) (by kernel_rfl) (fun _ _ h => by cases h) (by kernel_rfl) (by kernel_rfl) (fun _ _ => by go_simp) (lex_put (type := 0) (pos := "") (fun K hK => ?_)); go_big_quiet_step (fail); refine wpQuiet_nil (hK _ ?_); clear hK K)
  (refine lex_one (by kernel_rfl) (by kernel_rfl) (by kernel_rfl) (fun K hK => ?_); go_big_quiet_step (fail); refine wpQuiet_nil (hK _ ?_); clear hK K); (refine lex_one (by kernel_rfl) (by kernel_rfl) (by kernel_rfl) (fun K hK => ?_); go_big_quiet_step (fail); refine wpQuiet_nil (hK _ ?_); clear hK K); (refine lex_one (by kernel_rfl) (by kernel_rfl) (by kernel_rfl) (fun K hK => ?_); go_big_quiet_step (fail); refine wpQuiet_nil (hK _ ?_); clear hK K); (refine lex_one (by kernel_rfl) (by kernel_rfl) (by kernel_rfl) (fun K hK => ?_); go_big_quiet_step (fail); refine wpQuiet_nil (hK _ ?_); clear hK K); (refine lex_one (by kernel_rfl) (by kernel_rfl) (by kernel_rfl) (fun K hK => ?_); go_big_quiet_step (fail); refine wpQuiet_nil (hK _ ?_); clear hK K); (refine lex_one (by kernel_rfl) (by kernel_rfl) (by kernel_rfl) (fun K hK => ?_); go_big_quiet_step (fail); refine wpQuiet_nil (hK _ ?_); clear hK K); (refine lex_one (by kernel_rfl) (by kernel_rfl) (by kernel_rfl) (fun K hK => ?_); go_big_quiet_step (fail); refine wpQuiet_nil (hK _ ?_); clear hK K); (refine lex_one (by kernel_rfl) (by kernel_rfl) (by kernel_rfl) (fun K hK => ?_); go_big_quiet_step (fail); refine wpQuiet_nil (hK _ ?_); clear hK K); (refine lex_one (by kernel_rfl) (by kernel_rfl) (by kernel_rfl) (fun K hK => ?_); go_big_quiet_step (fail); refine wpQuiet_nil (hK _ ?_); clear hK K); (refine lex_one (by kernel_rfl) (by kernel_rfl) (by kernel_rfl) (fun K hK => ?_); go_big_quiet_step (fail); refine wpQuiet_nil (hK _ ?_); clear hK K); (refine lex_one (by kernel_rfl) (by kernel_rfl) (by kernel_rfl) (fun K hK => ?_); go_big_quiet_step (fail); refine wpQuiet_nil (hK _ ?_); clear hK K); (refine lex_one (by kernel_rfl) (by kernel_rfl) (by kernel_rfl) (fun K hK => ?_); go_big_quiet_step (fail); refine wpQuiet_nil (hK _ ?_); clear hK K); (refine lex_one (by kernel_rfl) (by kernel_rfl) (by kernel_rfl) (fun K hK => ?_); go_big_quiet_step (fail); refine wpQuiet_nil (hK _ ?_); clear hK K); (refine lex_one (by kernel_rfl) (by kernel_rfl) (by kernel_rfl) (fun K hK => ?_); go_big_quiet_step (fail); refine wpQuiet_nil (hK _ ?_); clear hK K); (refine lex_one (by kernel_rfl) (by kernel_rfl) (by kernel_rfl) (fun K hK => ?_); go_big_quiet_step (fail); refine wpQuiet_nil (hK _ ?_); clear hK K); (refine lex_one (by kernel_rfl) (by kernel_rfl) (by kernel_rfl) (fun K hK => ?_); go_big_quiet_step (fail); refine wpQuiet_nil (hK _ ?_); clear hK K); (refine lex_one (by kernel_rfl) (by kernel_rfl) (by kernel_rfl) (fun K hK => ?_); go_big_quiet_step (fail); refine wpQuiet_nil (hK _ ?_); clear hK K); (refine lex_one (by kernel_rfl) (by kernel_rfl) (by kernel_rfl) (fun K hK => ?_); go_big_quiet_step (fail); refine wpQuiet_nil (hK _ ?_); clear hK K); (refine lex_one (by kernel_rfl) (by kernel_rfl) (by kernel_rfl) (fun K hK => ?_); go_big_quiet_step (fail); refine wpQuiet_nil (hK _ ?_); clear hK K)
  (refine lex_val (v := .int .i64 10) (by kernel_rfl) (fun _ _ h => by cases h) (by kernel_rfl) (by kernel_rfl) (fun _ _ => by go_simp) (lex_put (type := 0) (pos := "") (fun K hK => ?_)); go_big_quiet_step (fail); refine wpQuiet_nil (hK _ ?_); clear hK K)
  (refine lex_one (by kernel_rfl) (by kernel_rfl) (by kernel_rfl) (fun K hK => ?_); go_big_quiet_step (fail); refine wpQuiet_nil (hK _ ?_); clear hK K); (refine lex_one (by kernel_rfl) (by kernel_rfl) (by kernel_rfl) (fun K hK => ?_); go_big_quiet_step (fail); refine wpQuiet_nil (hK _ ?_); clear hK K); (refine lex_one (by kernel_rfl) (by kernel_rfl) (by kernel_rfl) (fun K hK => ?_); go_big_quiet_step (fail); refine wpQuiet_nil (hK _ ?_); clear hK K); (refine lex_one (by kernel_rfl) (by kernel_rfl) (by kernel_rfl) (fun K hK => ?_); go_big_quiet_step (fail); refine wpQuiet_nil (hK _ ?_); clear hK K); (refine lex_one (by kernel_rfl) (by kernel_rfl) (by kernel_rfl) (fun K hK => ?_); go_big_quiet_step (fail); refine wpQuiet_nil (hK _ ?_); clear hK K); (refine lex_one (by kernel_rfl) (by kernel_rfl) (by kernel_rfl) (fun K hK => ?_); go_big_quiet_step (fail); refine wpQuiet_nil (hK _ ?_); clear hK K)
  (refine lex_val (v := .int .i64 0) (by kernel_rfl) (fun _ _ h => by cases h) (by kernel_rfl) (by kernel_rfl) (fun _ _ => by go_simp) (lex_put (type := 0) (pos := "") (fun K hK => ?_)); go_big_quiet_step (fail); refine wpQuiet_nil (hK _ ?_); clear hK K)
  (refine lex_one (by kernel_rfl) (by kernel_rfl) (by kernel_rfl) (fun K hK => ?_); go_big_quiet_step (fail); refine wpQuiet_nil (hK _ ?_); clear hK K); (refine lex_one (by kernel_rfl) (by kernel_rfl) (by kernel_rfl) (fun K hK => ?_); go_big_quiet_step (fail); refine wpQuiet_nil (hK _ ?_); clear hK K); (refine lex_one (by kernel_rfl) (by kernel_rfl) (by kernel_rfl) (fun K hK => ?_); go_big_quiet_step (fail); refine wpQuiet_nil (hK _ ?_); clear hK K); (refine lex_one (by kernel_rfl) (by kernel_rfl) (by kernel_rfl) (fun K hK => ?_); go_big_quiet_step (fail); refine wpQuiet_nil (hK _ ?_); clear hK K); (refine lex_one (by kernel_rfl) (by kernel_rfl) (by kernel_rfl) (fun K hK => ?_); go_big_quiet_step (fail); refine wpQuiet_nil (hK _ ?_); clear hK K); (refine lex_one (by kernel_rfl) (by kernel_rfl) (by kernel_rfl) (fun K hK => ?_); go_big_quiet_step (fail); refine wpQuiet_nil (hK _ ?_); clear hK K); (refine lex_one (by kernel_rfl) (by kernel_rfl) (by kernel_rfl) (fun K hK => ?_); go_big_quiet_step (fail); refine wpQuiet_nil (hK _ ?_); clear hK K); (refine lex_one (by kernel_rfl) (by kernel_rfl) (by kernel_rfl) (fun K hK => ?_); go_big_quiet_step (fail); refine wpQuiet_nil (hK _ ?_); clear hK K); (refine lex_one (by kernel_rfl) (by kernel_rfl) (by kernel_rfl) (fun K hK => ?_); go_big_quiet_step (fail); refine wpQuiet_nil (hK _ ?_); clear hK K); (refine lex_one (by kernel_rfl) (by kernel_rfl) (by kernel_rfl) (fun K hK => ?_); go_big_quiet_step (fail); refine wpQuiet_nil (hK _ ?_); clear hK K)
  (refine lex_val (v := .int .i64 10) (by kernel_rfl) (fun _ _ h => by cases h) (by kernel_rfl) (by kernel_rfl) (fun _ _ => by go_simp) (lex_put (type := 0) (pos := "") (fun K hK => ?_)); go_big_quiet_step (fail); refine wpQuiet_nil (hK _ ?_); clear hK K)
  (refine lex_one (by kernel_rfl) (by kernel_rfl) (by kernel_rfl) (fun K hK => ?_); go_big_quiet_step (fail); refine wpQuiet_nil (hK _ ?_); clear hK K); (refine lex_one (by kernel_rfl) (by kernel_rfl) (by kernel_rfl) (fun K hK => ?_); go_big_quiet_step (fail); refine wpQuiet_nil (hK _ ?_); clear hK K); (refine lex_one (by kernel_rfl) (by kernel_rfl) (by kernel_rfl) (fun K hK => ?_); go_big_quiet_step (fail); refine wpQuiet_nil (hK _ ?_); clear hK K); (refine lex_one (by kernel_rfl) (by kernel_rfl) (by kernel_rfl) (fun K hK => ?_); go_big_quiet_step (fail); refine wpQuiet_nil (hK _ ?_); clear hK K)
  (refine lex_val (v := .int .i64 186) (by kernel_rfl) (fun _ _ h => by cases h) (by kernel_rfl) (by kernel_rfl) (fun _ _ => by go_simp) (lex_put (type := 0) (pos := "") (fun K hK => ?_)); go_big_quiet_step (fail); refine wpQuiet_nil (hK _ ?_); clear hK K)
  (refine lex_one (by kernel_rfl) (by kernel_rfl) (by kernel_rfl) (fun K hK => ?_); go_big_quiet_step (fail); refine wpQuiet_nil (hK _ ?_); clear hK K); (refine lex_one (by kernel_rfl) (by kernel_rfl) (by kernel_rfl) (fun K hK => ?_); go_big_quiet_step (fail); refine wpQuiet_nil (hK _ ?_); clear hK K); (refine lex_one (by kernel_rfl) (by kernel_rfl) (by kernel_rfl) (fun K hK => ?_); go_big_quiet_step (fail); refine wpQuiet_nil (hK _ ?_); clear hK K); (refine lex_one (by kernel_rfl) (by kernel_rfl) (by kernel_rfl) (fun K hK => ?_); go_big_quiet_step (fail); refine wpQuiet_nil (hK _ ?_); clear hK K); (refine lex_one (by kernel_rfl) (by kernel_rfl) (by kernel_rfl) (fun K hK => ?_); go_big_quiet_step (fail); refine wpQuiet_nil (hK _ ?_); clear hK K)
  (refine lex_val (v := .int .i64 1) (by kernel_rfl) (fun _ _ h => by cases h) (by kernel_rfl) (by kernel_rfl) (fun _ _ => by go_simp) (lex_put (type := 0) (pos := "") (fun K hK => ?_)); go_big_quiet_step (fail); refine wpQuiet_nil (hK _ ?_); clear hK K)
  (refine lex_one (by kernel_rfl) (by kernel_rfl) (by kernel_rfl) (fun K hK => ?_); go_big_quiet_step (fail); refine wpQuiet_nil (hK _ ?_); clear hK K); (refine lex_one (by kernel_rfl) (by kernel_rfl) (by kernel_rfl) (fun K hK => ?_); go_big_quiet_step (fail); refine wpQuiet_nil (hK _ ?_); clear hK K); (refine lex_one (by kernel_rfl) (by kernel_rfl) (by kernel_rfl) (fun K hK => ?_); go_big_quiet_step (fail); refine wpQuiet_nil (hK _ ?_); clear hK K); (refine lex_one (by kernel_rfl) (by kernel_rfl) (by kernel_rfl) (fun K hK => ?_); go_big_quiet_step (fail); refine wpQuiet_nil (hK _ ?_); clear hK K); (refine lex_one (by kernel_rfl) (by kernel_rfl) (by kernel_rfl) (fun K hK => ?_); go_big_quiet_step (fail); refine wpQuiet_nil (hK _ ?_); clear hK K); (refine lex_one (by kernel_rfl) (by kernel_rfl) (by kernel_rfl) (fun K hK => ?_); go_big_quiet_step (fail); refine wpQuiet_nil (hK _ ?_); clear hK K); (refine lex_one (by kernel_rfl) (by kernel_rfl) (by kernel_rfl) (fun K hK => ?_); go_big_quiet_step (fail); refine wpQuiet_nil (hK _ ?_); clear hK K); (refine lex_one (by kernel_rfl) (by kernel_rfl) (by kernel_rfl) (fun K hK => ?_); go_big_quiet_step (fail); refine wpQuiet_nil (hK _ ?_); clear hK K); (refine lex_one (by kernel_rfl) (by kernel_rfl) (by kernel_rfl) (fun K hK => ?_); go_big_quiet_step (fail); refine wpQuiet_nil (hK _ ?_); clear hK K); (refine lex_one (by kernel_rfl) (by kernel_rfl) (by kernel_rfl) (fun K hK => ?_); go_big_quiet_step (fail); refine wpQuiet_nil (hK _ ?_); clear hK K); (refine lex_one (by kernel_rfl) (by kernel_rfl) (by kernel_rfl) (fun K hK => ?_); go_big_quiet_step (fail); refine wpQuiet_nil (hK _ ?_); clear hK K)
  refine lex_nil (by kernel_rfl) (by kernel_rfl) (by kernel_rfl) ?_
  intro W17 hb17
  simp only [hideAll]
  intro y hy
  clear hy
  go_wp2
  go_ret
  exact ⟨rfl, B16.trans (Below.mono hb17 B16.size)⟩
end Go.Proofs.YtipdeiiipdnacaaGreat
