/-
  NARROWER THAN 'FOR EVERY INPUT', by the rows' own cells (each row's printed sentence says how): IndexPuts: laid · IndexAsks: laid · IndexBack: laid · IndexFits: laid · IndexSymbols: laid · IndexApart: laid.
  DERIVED. THE GIVEN ROWS OF THIS SEAT. 6 by the template 'for every input the law returns true; each argument reads behind the call as it read before'; 0 by the template 'total and deterministic' (their statements: YtpeahjocimhneaaGreatDoorTotals.lean).
  GIVEN WITH THE SEED: the statements are not yours to turn. If you find one false, say at which input.
  Laid BY PROGRAM, IN A SANDBOX (cutbox-rows.mjs): the forced cells as the released guide's own fill.sh prints them over the translation 27441465ff64a3e8… (all of the seat's roots in one cut). By AI agents, Wed Nov 11 2026. No macro, syntax, notation, axiom, sorry.
-/
import Derived.Test.YtpeahjocimhneaaGreatDoorChecked
import GoSem.PinnedTables
import GoSem.Claim
import GoSem.ClaimJoined
import GoSem.ClaimMapViews
import Derived.JoinedTies
import Derived.KernelRfl
namespace Go.Proofs.YtpeahjocimhneaaGreatDoor
/- THE CELL 'sum', in the pinned program and in every row, IS THE sha256 OF THE DUMP (.gsa) THAT YtpeahjocimhneaaGreatDoorProg.lean LOADS. Nothing in Lean hashes anything: it is a label: what it is worth is what the hold of that sum in a sandbox is worth. -/
noncomputable def Tryz.pinned : Pinned := { name := "ytpeahjocimhneaagreatdoor", sum := "27441465ff64a3e80e0df26a7a2458dcd779bd6b3ab1e12eb2ca519d9ff4b1df", checked := Tryz.checked }
namespace Rows
def none {H : Type} : Left H := { results := [], args := [] }

/- WHAT THE LISTED PACKAGE-LEVEL VARIABLES READ AS WHEN THE CALL BEGINS. Each datum BY PROGRAM (the guide's laid-datum.mjs) off the statement by which the dump's own 'gosem.cut.vars' lays the variable. In a bare row this is a premise. The card (YtpeahjocimhneaaGreatDoorCards.lean) ties it to the program's text. -/
def laid_unicode_utf8_acceptRanges {H : Type} : DataW H := .agg [.agg [.lit (.int .u8 128), .lit (.int .u8 191)], .agg [.lit (.int .u8 160), .lit (.int .u8 191)], .agg [.lit (.int .u8 128), .lit (.int .u8 159)], .agg [.lit (.int .u8 144), .lit (.int .u8 191)], .agg [.lit (.int .u8 128), .lit (.int .u8 143)], .agg [.lit (.int .u8 0), .lit (.int .u8 0)], .agg [.lit (.int .u8 0), .lit (.int .u8 0)], .agg [.lit (.int .u8 0), .lit (.int .u8 0)], .agg [.lit (.int .u8 0), .lit (.int .u8 0)], .agg [.lit (.int .u8 0), .lit (.int .u8 0)], .agg [.lit (.int .u8 0), .lit (.int .u8 0)], .agg [.lit (.int .u8 0), .lit (.int .u8 0)], .agg [.lit (.int .u8 0), .lit (.int .u8 0)], .agg [.lit (.int .u8 0), .lit (.int .u8 0)], .agg [.lit (.int .u8 0), .lit (.int .u8 0)], .agg [.lit (.int .u8 0), .lit (.int .u8 0)]]
/-- One of Go's own tables, pinned by name: the form's constant. -/
def laid_unicode_utf8_first : DataW Unit := Go.Pinned.utf8First

/-- 'alluviumlaw12.IndexPuts': WHATEVER THE INPUT: true; the input reads as it did. -/
def indexPutsSpec : ChangeSpec := { name := "indexPuts", fn := fun _ => fun
  | [d1, d2, d3] => { results := [.lit (.bool true)], args := [d1, d2, d3] }
  | _ => none }
def indexPutsRow : OpenClaim := { program := "ytpeahjocimhneaagreatdoor", sum := "27441465ff64a3e80e0df26a7a2458dcd779bd6b3ab1e12eb2ca519d9ff4b1df", func := "alluvium/alluviumlaw12.IndexPuts", spec := "indexPuts", inPlace := ["internal/abi.NoEscape", "internal/bytealg.MakeNoZero", "internal/bytealg.abigen_runtime_cmpstring", "internal/bytealg.IndexByteString", "internal/bytealg.IndexString"], unfollowed := true, recurses := true, named := ["unicode/utf8.first", "unicode/utf8.acceptRanges", "internal/bytealg.MaxLen"], plainKeys := false, apart := false, laid := [("unicode/utf8.acceptRanges", laid_unicode_utf8_acceptRanges), ("unicode/utf8.first", laid_unicode_utf8_first)] }
def IndexPutsSaid : Prop := indexPutsRow.holds Tryz.pinned (OpenSpec.ofChange indexPutsSpec)

/-- ITS FALSE NEIGHBOUR: 'it returns false'. Refute it at one input. -/
def indexPutsWrong : ChangeSpec := { name := "indexPuts", fn := fun _ => fun
  | [d1, d2, d3] => { results := [.lit (.bool false)], args := [d1, d2, d3] }
  | _ => none }
def IndexPutsWrongFalsely : Prop := indexPutsRow.holds Tryz.pinned (OpenSpec.ofChange indexPutsWrong)

/-- 'alluviumlaw12.IndexAsks': WHATEVER THE INPUT: true; the input reads as it did. -/
def indexAsksSpec : ChangeSpec := { name := "indexAsks", fn := fun _ => fun
  | [d1, d2, d3] => { results := [.lit (.bool true)], args := [d1, d2, d3] }
  | _ => none }
def indexAsksRow : OpenClaim := { program := "ytpeahjocimhneaagreatdoor", sum := "27441465ff64a3e80e0df26a7a2458dcd779bd6b3ab1e12eb2ca519d9ff4b1df", func := "alluvium/alluviumlaw12.IndexAsks", spec := "indexAsks", inPlace := ["internal/abi.NoEscape", "internal/bytealg.MakeNoZero", "internal/bytealg.abigen_runtime_cmpstring", "internal/bytealg.IndexByteString", "internal/bytealg.IndexString"], unfollowed := true, recurses := true, named := ["unicode/utf8.first", "unicode/utf8.acceptRanges", "internal/bytealg.MaxLen"], plainKeys := false, apart := false, laid := [("unicode/utf8.acceptRanges", laid_unicode_utf8_acceptRanges), ("unicode/utf8.first", laid_unicode_utf8_first)] }
def IndexAsksSaid : Prop := indexAsksRow.holds Tryz.pinned (OpenSpec.ofChange indexAsksSpec)

/-- ITS FALSE NEIGHBOUR: 'it returns false'. Refute it at one input. -/
def indexAsksWrong : ChangeSpec := { name := "indexAsks", fn := fun _ => fun
  | [d1, d2, d3] => { results := [.lit (.bool false)], args := [d1, d2, d3] }
  | _ => none }
def IndexAsksWrongFalsely : Prop := indexAsksRow.holds Tryz.pinned (OpenSpec.ofChange indexAsksWrong)

/-- 'alluviumlaw12.IndexBack': WHATEVER THE INPUT: true; the input reads as it did. -/
def indexBackSpec : ChangeSpec := { name := "indexBack", fn := fun _ => fun
  | [d1, d2, d3] => { results := [.lit (.bool true)], args := [d1, d2, d3] }
  | _ => none }
def indexBackRow : OpenClaim := { program := "ytpeahjocimhneaagreatdoor", sum := "27441465ff64a3e80e0df26a7a2458dcd779bd6b3ab1e12eb2ca519d9ff4b1df", func := "alluvium/alluviumlaw12.IndexBack", spec := "indexBack", inPlace := ["internal/abi.NoEscape", "internal/bytealg.MakeNoZero", "internal/bytealg.abigen_runtime_cmpstring", "internal/bytealg.IndexByteString", "internal/bytealg.IndexString"], unfollowed := true, recurses := true, named := ["unicode/utf8.first", "unicode/utf8.acceptRanges", "internal/bytealg.MaxLen"], plainKeys := false, apart := false, laid := [("unicode/utf8.acceptRanges", laid_unicode_utf8_acceptRanges), ("unicode/utf8.first", laid_unicode_utf8_first)] }
def IndexBackSaid : Prop := indexBackRow.holds Tryz.pinned (OpenSpec.ofChange indexBackSpec)

/-- ITS FALSE NEIGHBOUR: 'it returns false'. Refute it at one input. -/
def indexBackWrong : ChangeSpec := { name := "indexBack", fn := fun _ => fun
  | [d1, d2, d3] => { results := [.lit (.bool false)], args := [d1, d2, d3] }
  | _ => none }
def IndexBackWrongFalsely : Prop := indexBackRow.holds Tryz.pinned (OpenSpec.ofChange indexBackWrong)

/-- 'alluviumlaw12.IndexFits': WHATEVER THE INPUT: true; the input reads as it did. -/
def indexFitsSpec : ChangeSpec := { name := "indexFits", fn := fun _ => fun
  | [d1, d2, d3] => { results := [.lit (.bool true)], args := [d1, d2, d3] }
  | _ => none }
def indexFitsRow : OpenClaim := { program := "ytpeahjocimhneaagreatdoor", sum := "27441465ff64a3e80e0df26a7a2458dcd779bd6b3ab1e12eb2ca519d9ff4b1df", func := "alluvium/alluviumlaw12.IndexFits", spec := "indexFits", inPlace := ["internal/abi.NoEscape", "internal/bytealg.MakeNoZero", "internal/bytealg.abigen_runtime_cmpstring", "internal/bytealg.IndexByteString", "internal/bytealg.IndexString"], unfollowed := true, recurses := true, named := ["unicode/utf8.first", "unicode/utf8.acceptRanges", "internal/bytealg.MaxLen"], plainKeys := false, apart := false, laid := [("unicode/utf8.acceptRanges", laid_unicode_utf8_acceptRanges), ("unicode/utf8.first", laid_unicode_utf8_first)] }
def IndexFitsSaid : Prop := indexFitsRow.holds Tryz.pinned (OpenSpec.ofChange indexFitsSpec)

/-- ITS FALSE NEIGHBOUR: 'it returns false'. Refute it at one input. -/
def indexFitsWrong : ChangeSpec := { name := "indexFits", fn := fun _ => fun
  | [d1, d2, d3] => { results := [.lit (.bool false)], args := [d1, d2, d3] }
  | _ => none }
def IndexFitsWrongFalsely : Prop := indexFitsRow.holds Tryz.pinned (OpenSpec.ofChange indexFitsWrong)

/-- 'alluviumlaw12.IndexSymbols': WHATEVER THE INPUT: true; the input reads as it did. -/
def indexSymbolsSpec : ChangeSpec := { name := "indexSymbols", fn := fun _ => fun
  | [d] => { results := [.lit (.bool true)], args := [d] }
  | _ => none }
def indexSymbolsRow : OpenClaim := { program := "ytpeahjocimhneaagreatdoor", sum := "27441465ff64a3e80e0df26a7a2458dcd779bd6b3ab1e12eb2ca519d9ff4b1df", func := "alluvium/alluviumlaw12.IndexSymbols", spec := "indexSymbols", inPlace := ["internal/abi.NoEscape", "internal/bytealg.MakeNoZero", "internal/bytealg.abigen_runtime_cmpstring", "internal/bytealg.IndexByteString", "internal/bytealg.IndexString"], unfollowed := true, recurses := true, named := ["unicode/utf8.first", "unicode/utf8.acceptRanges", "internal/bytealg.MaxLen"], plainKeys := false, apart := false, laid := [("unicode/utf8.acceptRanges", laid_unicode_utf8_acceptRanges), ("unicode/utf8.first", laid_unicode_utf8_first)] }
def IndexSymbolsSaid : Prop := indexSymbolsRow.holds Tryz.pinned (OpenSpec.ofChange indexSymbolsSpec)

/-- ITS FALSE NEIGHBOUR: 'it returns false'. Refute it at one input. -/
def indexSymbolsWrong : ChangeSpec := { name := "indexSymbols", fn := fun _ => fun
  | [d] => { results := [.lit (.bool false)], args := [d] }
  | _ => none }
def IndexSymbolsWrongFalsely : Prop := indexSymbolsRow.holds Tryz.pinned (OpenSpec.ofChange indexSymbolsWrong)

/-- 'alluviumlaw12.IndexApart': WHATEVER THE INPUT: true; the input reads as it did. -/
def indexApartSpec : ChangeSpec := { name := "indexApart", fn := fun _ => fun
  | [d1, d2, d3] => { results := [.lit (.bool true)], args := [d1, d2, d3] }
  | _ => none }
def indexApartRow : OpenClaim := { program := "ytpeahjocimhneaagreatdoor", sum := "27441465ff64a3e80e0df26a7a2458dcd779bd6b3ab1e12eb2ca519d9ff4b1df", func := "alluvium/alluviumlaw12.IndexApart", spec := "indexApart", inPlace := ["internal/abi.NoEscape", "internal/bytealg.MakeNoZero", "internal/bytealg.abigen_runtime_cmpstring", "internal/bytealg.IndexByteString", "internal/bytealg.IndexString"], unfollowed := true, recurses := true, named := ["unicode/utf8.first", "unicode/utf8.acceptRanges", "internal/bytealg.MaxLen"], plainKeys := false, apart := false, laid := [("unicode/utf8.acceptRanges", laid_unicode_utf8_acceptRanges), ("unicode/utf8.first", laid_unicode_utf8_first)] }
def IndexApartSaid : Prop := indexApartRow.holds Tryz.pinned (OpenSpec.ofChange indexApartSpec)

/-- ITS FALSE NEIGHBOUR: 'it returns false'. Refute it at one input. -/
def indexApartWrong : ChangeSpec := { name := "indexApart", fn := fun _ => fun
  | [d1, d2, d3] => { results := [.lit (.bool false)], args := [d1, d2, d3] }
  | _ => none }
def IndexApartWrongFalsely : Prop := indexApartRow.holds Tryz.pinned (OpenSpec.ofChange indexApartWrong)

/- THE SECOND FORM. 'bulk': how many values and letters a reading holds, each counted each time it is reached (what is shared counts as often as it is met; a slice's spare places count too). A statement '..UptoSaid' is the law's where the arguments, and the package variables that the reading takes, are together of bulk at most 1048576: NARROWER than '..Said'. Prove '..Said' where nothing that the law and all that it calls make is longer than what came in: it says more and counts as full. Else prove '..UptoSaid'. A law counts once. -/
mutual
def uptoBulk {H : Type} : DataW H → Nat
  | .lit (.string bytes) => bytes.length + 1
  | .lit _ => 1
  | .nil => 1
  | .ptr d => uptoBulk d + 1
  | .slice elems spare => uptoBulkAll elems + uptoBulkAll spare + 1
  | .agg parts => uptoBulkAll parts + 1
  | .iface _ d => uptoBulk d + 1
  | .map entries => uptoBulkEntries entries + 1
  | .held _ => 1
def uptoBulkAll {H : Type} : List (DataW H) → Nat
  | [] => 0
  | d :: r => uptoBulk d + uptoBulkAll r
def uptoBulkEntries {H : Type} : List (Lit × DataW H) → Nat
  | [] => 0
  | x :: r => uptoBulkEntry x + uptoBulkEntries r
def uptoBulkEntry {H : Type} : Lit × DataW H → Nat
  | (.string bytes, d) => bytes.length + uptoBulk d + 1
  | (_, d) => uptoBulk d + 1
 end
def uptoSmall : (H : Type) → List (DataW H) → Bool := fun _ ds => decide (uptoBulkAll ds ≤ 1048576)
def OpenSpec.upto (s : _root_.Go.ChangeSpec) : _root_.Go.OpenSpec := { _root_.Go.OpenSpec.ofChange s with cond := some uptoSmall }

/-- 'alluviumlaw12.IndexPuts', WHERE WHAT IT READS IS OF BULK AT MOST 1048576: true; the input reads as it did. -/
def indexPutsUptoRow : OpenClaim := { program := "ytpeahjocimhneaagreatdoor", sum := "27441465ff64a3e80e0df26a7a2458dcd779bd6b3ab1e12eb2ca519d9ff4b1df", func := "alluvium/alluviumlaw12.IndexPuts", spec := "indexPuts", inPlace := ["internal/abi.NoEscape", "internal/bytealg.MakeNoZero", "internal/bytealg.abigen_runtime_cmpstring", "internal/bytealg.IndexByteString", "internal/bytealg.IndexString"], unfollowed := true, recurses := true, named := ["unicode/utf8.first", "unicode/utf8.acceptRanges", "internal/bytealg.MaxLen"], plainKeys := false, apart := false, laid := [("unicode/utf8.acceptRanges", laid_unicode_utf8_acceptRanges), ("unicode/utf8.first", laid_unicode_utf8_first)], narrowed := true }
def IndexPutsUptoSaid : Prop := indexPutsUptoRow.holds Tryz.pinned (OpenSpec.upto indexPutsSpec)

/-- 'alluviumlaw12.IndexAsks', WHERE WHAT IT READS IS OF BULK AT MOST 1048576: true; the input reads as it did. -/
def indexAsksUptoRow : OpenClaim := { program := "ytpeahjocimhneaagreatdoor", sum := "27441465ff64a3e80e0df26a7a2458dcd779bd6b3ab1e12eb2ca519d9ff4b1df", func := "alluvium/alluviumlaw12.IndexAsks", spec := "indexAsks", inPlace := ["internal/abi.NoEscape", "internal/bytealg.MakeNoZero", "internal/bytealg.abigen_runtime_cmpstring", "internal/bytealg.IndexByteString", "internal/bytealg.IndexString"], unfollowed := true, recurses := true, named := ["unicode/utf8.first", "unicode/utf8.acceptRanges", "internal/bytealg.MaxLen"], plainKeys := false, apart := false, laid := [("unicode/utf8.acceptRanges", laid_unicode_utf8_acceptRanges), ("unicode/utf8.first", laid_unicode_utf8_first)], narrowed := true }
def IndexAsksUptoSaid : Prop := indexAsksUptoRow.holds Tryz.pinned (OpenSpec.upto indexAsksSpec)

/-- 'alluviumlaw12.IndexBack', WHERE WHAT IT READS IS OF BULK AT MOST 1048576: true; the input reads as it did. -/
def indexBackUptoRow : OpenClaim := { program := "ytpeahjocimhneaagreatdoor", sum := "27441465ff64a3e80e0df26a7a2458dcd779bd6b3ab1e12eb2ca519d9ff4b1df", func := "alluvium/alluviumlaw12.IndexBack", spec := "indexBack", inPlace := ["internal/abi.NoEscape", "internal/bytealg.MakeNoZero", "internal/bytealg.abigen_runtime_cmpstring", "internal/bytealg.IndexByteString", "internal/bytealg.IndexString"], unfollowed := true, recurses := true, named := ["unicode/utf8.first", "unicode/utf8.acceptRanges", "internal/bytealg.MaxLen"], plainKeys := false, apart := false, laid := [("unicode/utf8.acceptRanges", laid_unicode_utf8_acceptRanges), ("unicode/utf8.first", laid_unicode_utf8_first)], narrowed := true }
def IndexBackUptoSaid : Prop := indexBackUptoRow.holds Tryz.pinned (OpenSpec.upto indexBackSpec)

/-- 'alluviumlaw12.IndexFits', WHERE WHAT IT READS IS OF BULK AT MOST 1048576: true; the input reads as it did. -/
def indexFitsUptoRow : OpenClaim := { program := "ytpeahjocimhneaagreatdoor", sum := "27441465ff64a3e80e0df26a7a2458dcd779bd6b3ab1e12eb2ca519d9ff4b1df", func := "alluvium/alluviumlaw12.IndexFits", spec := "indexFits", inPlace := ["internal/abi.NoEscape", "internal/bytealg.MakeNoZero", "internal/bytealg.abigen_runtime_cmpstring", "internal/bytealg.IndexByteString", "internal/bytealg.IndexString"], unfollowed := true, recurses := true, named := ["unicode/utf8.first", "unicode/utf8.acceptRanges", "internal/bytealg.MaxLen"], plainKeys := false, apart := false, laid := [("unicode/utf8.acceptRanges", laid_unicode_utf8_acceptRanges), ("unicode/utf8.first", laid_unicode_utf8_first)], narrowed := true }
def IndexFitsUptoSaid : Prop := indexFitsUptoRow.holds Tryz.pinned (OpenSpec.upto indexFitsSpec)

/-- 'alluviumlaw12.IndexSymbols', WHERE WHAT IT READS IS OF BULK AT MOST 1048576: true; the input reads as it did. -/
def indexSymbolsUptoRow : OpenClaim := { program := "ytpeahjocimhneaagreatdoor", sum := "27441465ff64a3e80e0df26a7a2458dcd779bd6b3ab1e12eb2ca519d9ff4b1df", func := "alluvium/alluviumlaw12.IndexSymbols", spec := "indexSymbols", inPlace := ["internal/abi.NoEscape", "internal/bytealg.MakeNoZero", "internal/bytealg.abigen_runtime_cmpstring", "internal/bytealg.IndexByteString", "internal/bytealg.IndexString"], unfollowed := true, recurses := true, named := ["unicode/utf8.first", "unicode/utf8.acceptRanges", "internal/bytealg.MaxLen"], plainKeys := false, apart := false, laid := [("unicode/utf8.acceptRanges", laid_unicode_utf8_acceptRanges), ("unicode/utf8.first", laid_unicode_utf8_first)], narrowed := true }
def IndexSymbolsUptoSaid : Prop := indexSymbolsUptoRow.holds Tryz.pinned (OpenSpec.upto indexSymbolsSpec)

/-- 'alluviumlaw12.IndexApart', WHERE WHAT IT READS IS OF BULK AT MOST 1048576: true; the input reads as it did. -/
def indexApartUptoRow : OpenClaim := { program := "ytpeahjocimhneaagreatdoor", sum := "27441465ff64a3e80e0df26a7a2458dcd779bd6b3ab1e12eb2ca519d9ff4b1df", func := "alluvium/alluviumlaw12.IndexApart", spec := "indexApart", inPlace := ["internal/abi.NoEscape", "internal/bytealg.MakeNoZero", "internal/bytealg.abigen_runtime_cmpstring", "internal/bytealg.IndexByteString", "internal/bytealg.IndexString"], unfollowed := true, recurses := true, named := ["unicode/utf8.first", "unicode/utf8.acceptRanges", "internal/bytealg.MaxLen"], plainKeys := false, apart := false, laid := [("unicode/utf8.acceptRanges", laid_unicode_utf8_acceptRanges), ("unicode/utf8.first", laid_unicode_utf8_first)], narrowed := true }
def IndexApartUptoSaid : Prop := indexApartUptoRow.holds Tryz.pinned (OpenSpec.upto indexApartSpec)

end Rows
end Go.Proofs.YtpeahjocimhneaaGreatDoor
