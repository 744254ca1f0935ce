/- What the rows list of the library's package variables, and a world that has it. -/
import Derived.Test.YtgagcncmlonciaaGreatDoorGD
import Derived.Test.YtgagcncmlonciaaGreatDoorRows
import Derived.Stop.LaidErr
import Derived.LaidLaws
import Derived.Lib.LaidTab
namespace Go.Proofs.YtgagcncmlonciaaGreatDoor
open Go.RowKit

theorem gSyn : Tryz.prog.globalNamed "strconv.ErrSyntax" = some 1 := by kernel_rfl
theorem gRng : Tryz.prog.globalNamed "strconv.ErrRange" = some 2 := by kernel_rfl
theorem gSynT : (Tryz.prog.globals[1]?).map (·.type) = some 192 := by kernel_rfl
theorem gRngT : (Tryz.prog.globals[2]?).map (·.type) = some 192 := by kernel_rfl
theorem cellsES : Tryz.prog.cellsOf 386 = 1 := by kernel_rfl
theorem cellsStr : Tryz.prog.cellsOf 9 = 1 := by kernel_rfl
theorem starES : "*" ++ "errors.errorString" = "*errors.errorString" := by decide
theorem rowES (u : TypeId) (h : Tryz.prog.typeName? 3 u = some "*errors.errorString") : u = 384 :=
  typeName_ptr_named (nm := "errors.errorString") (by rw [starES]; kernel_rfl) (by kernel_rfl) (by decide) u (by rw [starES]; exact h)
theorem max_of {W : World} (h : W.ShapedOpen Tryz.prog) : ∃ m, W.cell? ⟨0, 0, none⟩ = some (.int .i64 m) :=
  Go.Proofs.cell_of_shapedOpen_int (zero := #[.int .i64 0]) (t := 3) h (of_decide_eq_true (by kernel_rfl)) (by kernel_rfl) rfl (by kernel_rfl) (by kernel_rfl) Tryz.underlying3
def laidL : List (String × DataW Unit) := [("math/bits.deBruijn32tab", Rows.laid_math_bits_deBruijn32tab), ("math/bits.deBruijn64tab", Rows.laid_math_bits_deBruijn64tab), ("internal/strconv.uint64pow10", Rows.laid_internal_strconv_uint64pow10), ("unicode/utf8.acceptRanges", Rows.laid_unicode_utf8_acceptRanges), ("strconv.ErrRange", Rows.laid_strconv_ErrRange), ("strconv.ErrSyntax", Rows.laid_strconv_ErrSyntax), ("unicode/utf8.first", Rows.laid_unicode_utf8_first)]
theorem gl_of {W : World} (hL : laidMet Tryz.prog laidL W) (hm : ∃ m, W.cell? ⟨0, 0, none⟩ = some (.int .i64 m)) : Gl W := by
  have h3 : laidMet Tryz.prog (("internal/strconv.uint64pow10", Lib.tabData .u64 Lib.pow10Tab) :: [("unicode/utf8.acceptRanges", Rows.laid_unicode_utf8_acceptRanges), ("strconv.ErrRange", Rows.laid_strconv_ErrRange), ("strconv.ErrSyntax", Rows.laid_strconv_ErrSyntax), ("unicode/utf8.first", Rows.laid_unicode_utf8_first)]) W := hL.tail.tail
  obtain ⟨a1, s1, hv1, -, -, -⟩ := laid_sentinel h3.tail.tail gRng gRngT Tryz.underlying192 rowES Tryz.underlying384 Tryz.underlying386 rfl rfl Tryz.underlying9 cellsES cellsStr
  obtain ⟨a2, s2, hv2, -, -, -⟩ := laid_sentinel h3.tail.tail.tail gSyn gSynT Tryz.underlying192 rowES Tryz.underlying384 Tryz.underlying386 rfl rfl Tryz.underlying9 cellsES cellsStr
  refine ⟨?_, ⟨_, by have h0 := World.var?_cell gSyn hv2 0; simpa using h0, .inr ⟨_, _, rfl⟩⟩, ⟨_, by have h0 := World.var?_cell gRng hv1 0; simpa using h0, .inr ⟨_, _, rfl⟩⟩, hm⟩
  exact Lib.tabIs_of_head (t := 363) (e := 143) (n := 20) gPow (by kernel_rfl) (by kernel_rfl) (by kernel_rfl) (by kernel_rfl) (by kernel_rfl) h3
/-- How many blocks the settled world has. -/
noncomputable def lowW : Nat := (World.holding Tryz.prog default ⟨#[], #[], []⟩).heap.size
def synS : ByteArray := ⟨#[105, 110, 118, 97, 108, 105, 100, 32, 115, 121, 110, 116, 97, 120]⟩
def rngS : ByteArray := ⟨#[118, 97, 108, 117, 101, 32, 111, 117, 116, 32, 111, 102, 32, 114, 97, 110, 103, 101]⟩
def dataCells1 : DataW Unit → List Value
  | .lit (.int k n) => [.int k n]
  | .agg l => l.filterMap fun d => match d with
    | .lit (.int k n) => some (.int k n)
    | _ => none
  | _ => []
def dataCells : DataW Unit → List Value
  | .agg l => l.flatMap dataCells1
  | _ => []
def putW (h : Array Obj) (g : Nat) (cs : Array Value) : Array Obj := h.modify g fun
  | .cells _ t frozen => .cells cs t frozen
  | o => o
/-- A world that has what the rows list. -/
noncomputable def laidWorld (os : Os) : World :=
  let w0 := World.holding Tryz.prog os ⟨#[.cells #[.string synS] 386, .cells #[.string rngS] 386], #[], []⟩
  let h1 := putW w0.heap 1 #[.iface 384 (.pointer (some ⟨lowW, 0, none⟩))]
  let h2 := putW h1 2 #[.iface 384 (.pointer (some ⟨lowW + 1, 0, none⟩))]
  let h3 := putW h2 3 (dataCells Rows.laid_internal_strconv_uint64pow10).toArray
  let h4 := putW h3 4 (dataCells Rows.laid_math_bits_deBruijn32tab).toArray
  let h5 := putW h4 5 (dataCells Rows.laid_math_bits_deBruijn64tab).toArray
  let h6 := putW h5 7 (dataCells Rows.laid_unicode_utf8_acceptRanges).toArray
  let h7 := putW h6 6 (dataCells Rows.laid_unicode_utf8_first).toArray
  { w0 with heap := h7 }
theorem laid_met (os : Os) (args : Array Value) : laidMet Tryz.prog laidL ((laidWorld os).forCall (fun _ _ => 0) ⟨#[], args, []⟩).memory :=
  laidMet_of_run' 12 (by kernel_rfl) (by kernel_rfl)
end Go.Proofs.YtgagcncmlonciaaGreatDoor
