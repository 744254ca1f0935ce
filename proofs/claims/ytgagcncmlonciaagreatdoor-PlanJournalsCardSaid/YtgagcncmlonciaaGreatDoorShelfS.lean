/- The contracts of the library that are used here, laid over this translation by the kit, in plain words. -/
import Derived.Shelf.Strings.Builder1
import Derived.Shelf.Strings.Builder2
import Derived.Shelf.Strings.Trim
import Derived.Shelf.Small.Utf8
import Derived.Shelf.Small.Bits
import Derived.Shelf.Small.Strs
import Derived.Shelf.Small.Wraps
import Derived.Shelf.Strings.BuilderF
import Derived.Shelf.Strings.BuilderK
import Derived.Shelf.Strings.Builder2Cap
import Derived.Shelf.Strconv.Atoi
import Derived.Shelf.Strconv.Itoa0
import Derived.Shelf.Strconv.Itoa1
import Derived.Shelf.LaysM
import Derived.Shelf.Strconv.Itoa2
import Derived.Shelf.Strconv.Itoa3
import Derived.Shelf.Strconv.AtoiErrFast
import Derived.Shelf.Strconv.ParseIntEmpty
import Derived.Shelf.Strconv.AtoiFail
import Derived.Shelf.Strconv.Clone
import Derived.Shelf.Strconv.SyntaxError
import Derived.Shelf.LaysC
import Derived.Shelf.Strconv.ToError
import Derived.Shelf.Strconv.Lower
import Derived.Shelf.Strconv.ParseUint10
import Derived.Shelf.Strconv.ParseUint10Empty
import Derived.Shelf.Strconv.ParseUint10Any
import Derived.Shelf.Strconv.ParseInt10
import Derived.Shelf.Strconv.AtoiLong
import Derived.Shelf.Strconv.AtoiInnerAll
import Derived.Shelf.Strconv.RangeError
import Derived.Shelf.Strconv.ToErrorRange
import Derived.Shelf.Strconv.AtoiAll
import Derived.Shelf.Strconv.ErrVarAll
import Derived.Shelf.Strconv.ParseUintEmpty
import Derived.Shelf.Strconv.ParseUint10b64
import Derived.Shelf.Strconv.ParseUint10b32
import Derived.Shelf.Strconv.ParseUint10b16
import Derived.Shelf.Strconv.ParseUint10b8
import Derived.Shelf.Strconv.ParseUint10At
import Derived.Shelf.Strings.Search1
import Derived.Shelf.Strings.Search2
import Derived.Shelf.Strings.Cut
import Derived.Shelf.Strings.Shaped
import Derived.Shelf.Sort.Plain
import Derived.Shelf.Strings.Prefix
import Derived.Shelf.Unicode.Decode
import Derived.Shelf.Strings.Runes
import Derived.Shelf.Strings.AsciiSet
import Derived.Shelf.Bits.Mul64
import Derived.Shelf.Strings.Repeat
import Derived.Shelf.Unicode.DecodeSlow
import Derived.Shelf.Unicode.DecodeAny
import Derived.Shelf.Unicode.DecodeLast
import Derived.Shelf.Strings.BuilderCap
import Derived.Shelf.Slices.Turned
import Derived.Ground.Names2Prog
import Derived.Shelf.Slices.CompactI
import Derived.Shelf.Slices.CompactS
import Derived.Shelf.Slices.SearchI
import Derived.Shelf.Slices.Cells
import Derived.Shelf.Slices.In.SortNone
import Derived.Test.YtgagcncmlonciaaGreatDoorProg
namespace Go.Proofs
open Go.Shelf
def Tryz.lays189_ren : Go.Shelf.Ren := ⟨fun | 189 => 149 | 125 => 202 | 257 => 201 | 128 => 248 | 129 => 249 | 294 => 239 | 295 => 240 | 296 => 241 | 297 => 242 | 298 => 243 | 299 => 244 | 216 => 245 | 300 => 246 | 301 => 247 | 328 => 290 | 329 => 291 | 330 => 292 | 331 => 293 | 332 => 294 | 215 => 295 | 343 => 318 | n => n, fun | 28 => 51 | 3 => 3 | 46 => 202 | 0 => 0 | 51 => 195 | 53 => 143 | 4 => 4 | 183 => 343 | 182 => 342 | 131 => 300 | 5 => 5 | 9 => 9 | 218 => 375 | 222 => 378 | 228 => 399 | 229 => 400 | n => n, fun | n => n⟩
theorem Tryz.lays189 : Go.Proofs.Lays.n189 Tryz.prog Tryz.lays189_ren := {
  mixed := by kernel_rfl
  f125 := Tryz.func202.trans (congrArg some (by kernel_rfl))
  f128 := Tryz.func248.trans (congrArg some (by kernel_rfl))
  f129 := Tryz.func249.trans (congrArg some (by kernel_rfl))
  f189 := Tryz.func149.trans (congrArg some (by kernel_rfl))
  f215 := Tryz.func295.trans (congrArg some (by kernel_rfl))
  f216 := Tryz.func245.trans (congrArg some (by kernel_rfl))
  f257 := Tryz.func201.trans (congrArg some (by kernel_rfl))
  f294 := Tryz.func239.trans (congrArg some (by kernel_rfl))
  f295 := Tryz.func240.trans (congrArg some (by kernel_rfl))
  f296 := Tryz.func241.trans (congrArg some (by kernel_rfl))
  f297 := Tryz.func242.trans (congrArg some (by kernel_rfl))
  f298 := Tryz.func243.trans (congrArg some (by kernel_rfl))
  f299 := Tryz.func244.trans (congrArg some (by kernel_rfl))
  f300 := Tryz.func246.trans (congrArg some (by kernel_rfl))
  f301 := Tryz.func247.trans (congrArg some (by kernel_rfl))
  f328 := Tryz.func290.trans (congrArg some (by kernel_rfl))
  f329 := Tryz.func291.trans (congrArg some (by kernel_rfl))
  f330 := Tryz.func292.trans (congrArg some (by kernel_rfl))
  f331 := Tryz.func293.trans (congrArg some (by kernel_rfl))
  f332 := Tryz.func294.trans (congrArg some (by kernel_rfl))
  f343 := Tryz.func318.trans (congrArg some (by kernel_rfl))
  t0 := Tryz.underlying0
  a0 := Tryz.isAgg0
  z0 := Tryz.sizeOf0
  v0 := Tryz.zeroValue0
  t3 := Tryz.underlying3
  a3 := Tryz.isAgg3
  z3 := Tryz.sizeOf3
  v3 := Tryz.zeroValue3
  t4 := Tryz.underlying4
  a4 := Tryz.isAgg4
  z4 := Tryz.sizeOf4
  v4 := Tryz.zeroValue4
  t5 := Tryz.underlying5
  a5 := Tryz.isAgg5
  z5 := Tryz.sizeOf5
  v5 := Tryz.zeroValue5
  t9 := Tryz.underlying9
  a9 := Tryz.isAgg9
  z9 := Tryz.sizeOf9
  v9 := Tryz.zeroValue9
  t28 := Tryz.underlying51
  a28 := Tryz.isAgg51
  z28 := Tryz.sizeOf51
  v28 := Tryz.zeroValue51
  t46 := Tryz.underlying202
  a46 := Tryz.isAgg202
  z46 := Tryz.sizeOf202
  v46 := Tryz.zeroValue202
  t51 := Tryz.underlying195
  a51 := Tryz.isAgg195
  z51 := Tryz.sizeOf195
  v51 := Tryz.zeroValue195
  t53 := Tryz.underlying143
  a53 := Tryz.isAgg143
  z53 := Tryz.sizeOf143
  v53 := Tryz.zeroValue143
  t131 := Tryz.underlying300
  a131 := Tryz.isAgg300
  z131 := Tryz.sizeOf300
  v131 := Tryz.zeroValue300
  t182 := Tryz.underlying342
  a182 := Tryz.isAgg342
  z182 := Tryz.sizeOf342
  v182 := Tryz.zeroValue342
  t183 := Tryz.underlying343
  a183 := Tryz.isAgg343
  z183 := Tryz.sizeOf343
  v183 := Tryz.zeroValue343
  t218 := Tryz.underlying375
  a218 := Tryz.isAgg375
  z218 := Tryz.sizeOf375
  v218 := Tryz.zeroValue375
  t222 := Tryz.underlying378
  a222 := Tryz.isAgg378
  z222 := Tryz.sizeOf378
  v222 := Tryz.zeroValue378
  t228 := Tryz.underlying399
  a228 := Tryz.isAgg399
  z228 := Tryz.sizeOf399
  v228 := Tryz.zeroValue399
  t229 := Tryz.underlying400
  a229 := Tryz.isAgg400
  z229 := Tryz.sizeOf400
  v229 := Tryz.zeroValue400 }
open Go.Sort Go.RowKit in
theorem Tryz.slices_Sort_int (blk off cap : Nat) (zs : List Int) (w : World) (hH : Holds (Value.int .i64) w blk off zs.toArray) (hblk : blk < w.heap.size) (hsz : zs.length < 4611686018427387904) :
    Calls Tryz.prog 149 #[.slice (some ⟨blk, off, none⟩) zs.length cap] w fun e w' =>
      e = .returned (.tuple #[]) ∧ ∃ n os, w' = grow (putRow (Value.int .i64) (Sort.ahead w n) blk off (zs.mergeSort fun x y => decide (x ≤ y)).toArray) os := Any.slices_Sort_int Tryz.lays189 blk off cap zs w hH hblk hsz
end Go.Proofs
