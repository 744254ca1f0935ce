/- The contracts of slices.Sorted over maps.Keys, laid over this translation by the kit, in plain words. -/
import Derived.Shelf.SlIter.Nil
import Derived.Shelf.SortM.Plain
import Derived.Shelf.SortM.SortNone
import Derived.Ground.GgzProg
import Derived.Ground.SlgmProg
import Derived.Test.YtgagcncmlonciaaGreatDoorProg
namespace Go.Proofs
open Go.RowKit Go.Maps Go.Sort Go.Shelf
def Tryz.keys105_ren : Go.Shelf.Ren := ⟨fun | 7 => 105 | 10 => 165 | n => n, fun | 23 => 47 | 26 => 9 | 3 => 79 | 28 => 187 | 0 => 0 | 27 => 186 | 33 => 127 | 4 => 4 | n => n, fun | n => n⟩
theorem Tryz.keys105 : Go.Proofs.SlLaysZ.n7 Tryz.prog Tryz.keys105_ren := {
  mixed := by kernel_rfl
  f7 := ⟨Tryz.f105.name, by decide, Tryz.func105.trans (congrArg some (by kernel_rfl))⟩
  f10 := ⟨Tryz.f165.name, by decide, Tryz.func165.trans (congrArg some (by kernel_rfl))⟩
  t0 := Tryz.underlying0
  a0 := Tryz.isAgg0
  z0 := Tryz.sizeOf0
  v0 := Tryz.zeroValue0
  t4 := Tryz.underlying4
  a4 := Tryz.isAgg4
  z4 := Tryz.sizeOf4
  v4 := Tryz.zeroValue4
  t23 := Tryz.underlying47
  a23 := Tryz.isAgg47
  z23 := Tryz.sizeOf47
  v23 := Tryz.zeroValue47
  t26 := Tryz.underlying9
  a26 := Tryz.isAgg9
  z26 := Tryz.sizeOf9
  v26 := Tryz.zeroValue9
  t27 := Tryz.underlying186
  a27 := Tryz.isAgg186
  z27 := Tryz.sizeOf186
  v27 := Tryz.zeroValue186
  t28 := Tryz.underlying187
  a28 := Tryz.isAgg187
  z28 := Tryz.sizeOf187
  v28 := Tryz.zeroValue187
  t33 := Tryz.underlying127
  a33 := Tryz.isAgg127
  z33 := Tryz.sizeOf127
  v33 := Tryz.zeroValue127 }
def Tryz.sorted104_ren : Go.Shelf.Ren := ⟨fun | 6 => 104 | 8 => 163 | 9 => 164 | 11 => 205 | 13 => 202 | 12 => 206 | 23 => 248 | 24 => 249 | 14 => 251 | 15 => 252 | 16 => 253 | 17 => 254 | 18 => 255 | 19 => 256 | 20 => 257 | 21 => 258 | 22 => 259 | 25 => 296 | 26 => 291 | 27 => 292 | 28 => 297 | 29 => 298 | 30 => 299 | 31 => 319 | n => n, fun | 26 => 9 | 28 => 187 | 24 => 34 | 0 => 0 | 3 => 3 | 37 => 202 | 48 => 195 | 50 => 143 | 4 => 4 | 40 => 343 | 39 => 342 | 45 => 300 | 5 => 5 | 9 => 9 | 51 => 375 | 55 => 378 | 57 => 399 | 58 => 400 | 33 => 127 | n => n, fun | n => n⟩
theorem Tryz.sorted104 : Go.Proofs.SlLaysZ.n6 Tryz.prog Tryz.sorted104_ren := {
  mixed := by kernel_rfl
  f6 := ⟨Tryz.f104.name, by decide, Tryz.func104.trans (congrArg some (by kernel_rfl))⟩
  f8 := ⟨Tryz.f163.name, by decide, Tryz.func163.trans (congrArg some (by kernel_rfl))⟩
  f11 := ⟨Tryz.f205.name, by decide, Tryz.func205.trans (congrArg some (by kernel_rfl))⟩
  t0 := Tryz.underlying0
  a0 := Tryz.isAgg0
  z0 := Tryz.sizeOf0
  v0 := Tryz.zeroValue0
  t24 := Tryz.underlying34
  a24 := Tryz.isAgg34
  z24 := Tryz.sizeOf34
  v24 := Tryz.zeroValue34
  t26 := Tryz.underlying9
  a26 := Tryz.isAgg9
  z26 := Tryz.sizeOf9
  v26 := Tryz.zeroValue9
  t28 := Tryz.underlying187
  a28 := Tryz.isAgg187
  z28 := Tryz.sizeOf187
  v28 := Tryz.zeroValue187
  i26 := by kernel_rfl }
def Tryz.sort164_ren : Go.Shelf.Ren := ⟨fun | 6 => 164 | 8 => 202 | 9 => 206 | 19 => 248 | 20 => 249 | 21 => 251 | 22 => 252 | 23 => 253 | 24 => 254 | 25 => 255 | 26 => 256 | 27 => 257 | 28 => 258 | 29 => 259 | 36 => 296 | 31 => 291 | 32 => 292 | 37 => 297 | 38 => 298 | 39 => 299 | 41 => 319 | n => n, fun | 27 => 34 | 29 => 9 | 3 => 3 | 32 => 202 | 26 => 34 | 0 => 0 | 44 => 195 | 46 => 143 | 4 => 4 | 36 => 343 | 35 => 342 | 41 => 300 | 5 => 5 | 9 => 9 | 53 => 375 | 57 => 378 | 63 => 399 | 64 => 400 | n => n, fun | n => n⟩
theorem Tryz.sort164 : Go.Proofs.SlLaysM.n6 Tryz.prog Tryz.sort164_ren := {
  mixed := by kernel_rfl
  f6 := ⟨Tryz.f164.name, by decide, Tryz.func164.trans (congrArg some (by kernel_rfl))⟩
  f8 := Tryz.func202.trans (congrArg some (by kernel_rfl))
  f9 := ⟨Tryz.f206.name, by decide, Tryz.func206.trans (congrArg some (by kernel_rfl))⟩
  f19 := Tryz.func248.trans (congrArg some (by kernel_rfl))
  f20 := Tryz.func249.trans (congrArg some (by kernel_rfl))
  f21 := ⟨Tryz.f251.name, by decide, Tryz.func251.trans (congrArg some (by kernel_rfl))⟩
  f22 := ⟨Tryz.f252.name, by decide, Tryz.func252.trans (congrArg some (by kernel_rfl))⟩
  f23 := ⟨Tryz.f253.name, by decide, Tryz.func253.trans (congrArg some (by kernel_rfl))⟩
  f24 := ⟨Tryz.f254.name, by decide, Tryz.func254.trans (congrArg some (by kernel_rfl))⟩
  f25 := ⟨Tryz.f255.name, by decide, Tryz.func255.trans (congrArg some (by kernel_rfl))⟩
  f26 := ⟨Tryz.f256.name, by decide, Tryz.func256.trans (congrArg some (by kernel_rfl))⟩
  f27 := ⟨Tryz.f257.name, by decide, Tryz.func257.trans (congrArg some (by kernel_rfl))⟩
  f28 := ⟨Tryz.f258.name, by decide, Tryz.func258.trans (congrArg some (by kernel_rfl))⟩
  f29 := ⟨Tryz.f259.name, by decide, Tryz.func259.trans (congrArg some (by kernel_rfl))⟩
  f31 := Tryz.func291.trans (congrArg some (by kernel_rfl))
  f32 := Tryz.func292.trans (congrArg some (by kernel_rfl))
  f36 := ⟨Tryz.f296.name, by decide, Tryz.func296.trans (congrArg some (by kernel_rfl))⟩
  f37 := ⟨Tryz.f297.name, by decide, Tryz.func297.trans (congrArg some (by kernel_rfl))⟩
  f38 := ⟨Tryz.f298.name, by decide, Tryz.func298.trans (congrArg some (by kernel_rfl))⟩
  f39 := ⟨Tryz.f299.name, by decide, Tryz.func299.trans (congrArg some (by kernel_rfl))⟩
  f41 := ⟨Tryz.f319.name, by decide, Tryz.func319.trans (congrArg some (by kernel_rfl))⟩
  t0 := Tryz.underlying0
  a0 := Tryz.isAgg0
  z0 := Tryz.sizeOf0
  v0 := Tryz.zeroValue0
  t3 := Tryz.underlying3
  a3 := Tryz.isAgg3
  z3 := Tryz.sizeOf3
  v3 := Tryz.zeroValue3
  t4 := Tryz.underlying4
  a4 := Tryz.isAgg4
  z4 := Tryz.sizeOf4
  v4 := Tryz.zeroValue4
  t5 := Tryz.underlying5
  a5 := Tryz.isAgg5
  z5 := Tryz.sizeOf5
  v5 := Tryz.zeroValue5
  t9 := Tryz.underlying9
  a9 := Tryz.isAgg9
  z9 := Tryz.sizeOf9
  v9 := Tryz.zeroValue9
  t26 := Tryz.underlying34
  a26 := Tryz.isAgg34
  z26 := Tryz.sizeOf34
  v26 := Tryz.zeroValue34
  t27 := Tryz.underlying34
  a27 := Tryz.isAgg34
  z27 := Tryz.sizeOf34
  v27 := Tryz.zeroValue34
  t29 := Tryz.underlying9
  a29 := Tryz.isAgg9
  z29 := Tryz.sizeOf9
  v29 := Tryz.zeroValue9
  t32 := Tryz.underlying202
  a32 := Tryz.isAgg202
  z32 := Tryz.sizeOf202
  v32 := Tryz.zeroValue202
  t35 := Tryz.underlying342
  a35 := Tryz.isAgg342
  z35 := Tryz.sizeOf342
  v35 := Tryz.zeroValue342
  t36 := Tryz.underlying343
  a36 := Tryz.isAgg343
  z36 := Tryz.sizeOf343
  v36 := Tryz.zeroValue343
  t41 := Tryz.underlying300
  a41 := Tryz.isAgg300
  z41 := Tryz.sizeOf300
  v41 := Tryz.zeroValue300
  t44 := Tryz.underlying195
  a44 := Tryz.isAgg195
  z44 := Tryz.sizeOf195
  v44 := Tryz.zeroValue195
  t46 := Tryz.underlying143
  a46 := Tryz.isAgg143
  z46 := Tryz.sizeOf143
  v46 := Tryz.zeroValue143
  t53 := Tryz.underlying375
  a53 := Tryz.isAgg375
  z53 := Tryz.sizeOf375
  v53 := Tryz.zeroValue375
  t57 := Tryz.underlying378
  a57 := Tryz.isAgg378
  z57 := Tryz.sizeOf378
  v57 := Tryz.zeroValue378
  t63 := Tryz.underlying399
  a63 := Tryz.isAgg399
  z63 := Tryz.sizeOf399
  v63 := Tryz.zeroValue399
  t64 := Tryz.underlying400
  a64 := Tryz.isAgg400
  z64 := Tryz.sizeOf400
  v64 := Tryz.zeroValue400 }

theorem Tryz.sorts104 (m : Nat) : AnyZ.SortsIn Tryz.prog Tryz.sorted104_ren Fence.wide m :=
  ⟨fun blk off cap ss W hH hblk hsz => callsIn_wide.2 (AnyM.slices_Sort_string Tryz.sort164 blk off cap ss W hH hblk hsz),
   fun p cap W => callsIn_wide.2 (AnyM.slices_Sort_string_none Tryz.sort164 p cap W)⟩

theorem Tryz.maps_Keys_105 (mb : Option Nat) (W : World) : CallsIn Fence.wide 5 Tryz.prog 105 #[.map mb] W fun e w' => e = .returned (.func (.func 165) #[] #[.pointer (some ⟨W.heap.size, 0, none⟩)]) ∧ w' = W.alloc (.cells #[.map mb] 47) :=
  AnyZ.keys_in Tryz.keys105 Fence.wide 5 trivial rfl mb W

set_option maxHeartbeats 1000000 in
theorem Tryz.slices_Sorted_keys_104_105 {H : Type} (b nn : Nat) (D0 : DataW H) (R : Value → Option (DataW H × List MemPlace)) (w : World) (hown : w.ownsMap Tryz.prog 9 R b nn D0) (hmax : Maps.size D0 ≤ maxLen) (hbytes : Maps.size D0 * 16 ≤ 140737488355328) :
    CallsIn Fence.wide 5 Tryz.prog 104 #[.func (.func 165) #[] #[.pointer (some ⟨w.heap.size, 0, none⟩)]] (w.alloc (.cells #[.map (some b)] 47)) fun e w' => ∃ (v : Value) (ss : List (List UInt8)), e = .returned v ∧ ss.Perm (strKeys D0) ∧
      w'.ownsRow (w.alloc (.cells #[.map (some b)] 47)).heap.size 9 1 v ss.length ((ss.mergeSort (fun x y => decide (x ≤ y))).map encStr) ∧ (v = .slice none 0 0 ↔ ss = []) ∧ Below (w.alloc (.cells #[.map (some b)] 47)).heap.size (w.alloc (.cells #[.map (some b)] 47)) w' := by
  have hbl := hown.lt
  have hseq : SeqGives Fence.wide 2 Tryz.prog 165 #[.pointer (some ⟨w.heap.size, 0, none⟩)] encStr (fun ss => ss.Perm (strKeys D0)) (Maps.size D0) (w.alloc (.cells #[.map (some b)] 47)) :=
    AnyZ.keys_gives (ρ := Tryz.keys105_ren) { Tryz.keys105 with } Fence.wide _ trivial rfl (by omega) w.heap.size b nn D0 _ (by simp) (by simp) (by
      obtain ⟨es, clock, hb, Ft, hs, hD⟩ := hown
      exact ⟨es, clock, (Below.heap_alloc _ _ b hbl).trans hb, Ft, hs, hD⟩)
  exact AnyZ.sorted_in Tryz.sorted104 Fence.wide 5 trivial trivial trivial trivial rfl (by omega) (Tryz.sorts104 _) (enters_of Tryz.func164 (by kernel_rfl) rfl) 165 #[.pointer (some ⟨w.heap.size, 0, none⟩)] trivial (enters_of Tryz.func165 (by kernel_rfl) rfl) _ _ hmax hbytes _ hseq

set_option maxHeartbeats 1000000 in
theorem Tryz.slices_Sorted_keys_nil_104_105 (w : World) :
    CallsIn Fence.wide 5 Tryz.prog 104 #[.func (.func 165) #[] #[.pointer (some ⟨w.heap.size, 0, none⟩)]] (w.alloc (.cells #[.map none] 47)) fun e w' => ∃ (v : Value) (ss : List (List UInt8)), e = .returned v ∧ ss = [] ∧
      w'.ownsRow (w.alloc (.cells #[.map none] 47)).heap.size 9 1 v ss.length ((ss.mergeSort (fun x y => decide (x ≤ y))).map encStr) ∧ (v = .slice none 0 0 ↔ ss = []) ∧ Below (w.alloc (.cells #[.map none] 47)).heap.size (w.alloc (.cells #[.map none] 47)) w' := by
  have hseq : SeqGives Fence.wide 2 Tryz.prog 165 #[.pointer (some ⟨w.heap.size, 0, none⟩)] encStr (fun ss : List (List UInt8) => ss = []) 0 (w.alloc (.cells #[.map none] 47)) :=
    AnyZ.keys_gives_nil (ρ := Tryz.keys105_ren) { Tryz.keys105 with } Fence.wide _ trivial rfl w.heap.size _ (by simp) (by simp)
  exact AnyZ.sorted_in Tryz.sorted104 Fence.wide 5 trivial trivial trivial trivial rfl (by omega) (Tryz.sorts104 _) (enters_of Tryz.func164 (by kernel_rfl) rfl) 165 #[.pointer (some ⟨w.heap.size, 0, none⟩)] trivial (enters_of Tryz.func165 (by kernel_rfl) rfl) _ 0 (Nat.zero_le _) (by omega) _ hseq
end Go.Proofs
