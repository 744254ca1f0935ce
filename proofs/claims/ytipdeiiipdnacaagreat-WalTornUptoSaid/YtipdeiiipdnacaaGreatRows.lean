/-
  No cell of these rows narrows 'for every input' (looked for: loops, veiled, ifaces, maps, wideKeys, modest, calm, conditions, laid).
  DERIVED. THE GIVEN ROWS OF THIS SEAT. 4 by the template 'for every input the law returns true; each argument reads behind the call as it read before'; 0 by the template 'total and deterministic' (their statements: YtipdeiiipdnacaaGreatTotals.lean).
  GIVEN WITH THE SEED: the statements are not yours to turn. If you find one false, say at which input.
  Laid BY PROGRAM, IN A SANDBOX (cutbox-rows.mjs): the forced cells as the released guide's own fill.sh prints them over the translation e659556ae90c318d… (all of the seat's roots in one cut). By AI agents, Wed Nov 11 2026. No macro, syntax, notation, axiom, sorry.
-/
import Derived.Test.YtipdeiiipdnacaaGreatChecked
import GoSem.Claim
import GoSem.ClaimJoined
import GoSem.ClaimMapViews
import Derived.JoinedTies
import Derived.KernelRfl
namespace Go.Proofs.YtipdeiiipdnacaaGreat
/- THE CELL 'sum', in the pinned program and in every row, IS THE sha256 OF THE DUMP (.gsa) THAT YtipdeiiipdnacaaGreatProg.lean LOADS. Nothing in Lean hashes anything: it is a label: what it is worth is what the hold of that sum in a sandbox is worth. -/
noncomputable def Tryz.pinned : Pinned := { name := "ytipdeiiipdnacaagreat", sum := "e659556ae90c318d847df95d593e8c457fa903020a5dc0db1e6387e6eb5e40a6", checked := Tryz.checked }
namespace Rows
def none {H : Type} : Left H := { results := [], args := [] }

/-- 'alluviumlaw10.WalBack': WHATEVER THE INPUT: true; the input reads as it did. -/
def walBackSpec : ChangeSpec := { name := "walBack", fn := fun _ => fun
  | [d1, d2] => { results := [.lit (.bool true)], args := [d1, d2] }
  | _ => none }
def walBackRow : OpenClaim := { program := "ytipdeiiipdnacaagreat", sum := "e659556ae90c318d847df95d593e8c457fa903020a5dc0db1e6387e6eb5e40a6", func := "alluvium/alluviumlaw10.WalBack", spec := "walBack", unfollowed := true, recurses := true, apart := false }
def WalBackSaid : Prop := walBackRow.holds Tryz.pinned (OpenSpec.ofChange walBackSpec)

/-- ITS FALSE NEIGHBOUR: 'it returns false'. Refute it at one input. -/
def walBackWrong : ChangeSpec := { name := "walBack", fn := fun _ => fun
  | [d1, d2] => { results := [.lit (.bool false)], args := [d1, d2] }
  | _ => none }
def WalBackWrongFalsely : Prop := walBackRow.holds Tryz.pinned (OpenSpec.ofChange walBackWrong)

/-- 'alluviumlaw10.WalTorn': WHATEVER THE INPUT: true; the input reads as it did. -/
def walTornSpec : ChangeSpec := { name := "walTorn", fn := fun _ => fun
  | [d1, d2, d3] => { results := [.lit (.bool true)], args := [d1, d2, d3] }
  | _ => none }
def walTornRow : OpenClaim := { program := "ytipdeiiipdnacaagreat", sum := "e659556ae90c318d847df95d593e8c457fa903020a5dc0db1e6387e6eb5e40a6", func := "alluvium/alluviumlaw10.WalTorn", spec := "walTorn", unfollowed := true, recurses := true, apart := false }
def WalTornSaid : Prop := walTornRow.holds Tryz.pinned (OpenSpec.ofChange walTornSpec)

/-- ITS FALSE NEIGHBOUR: 'it returns false'. Refute it at one input. -/
def walTornWrong : ChangeSpec := { name := "walTorn", fn := fun _ => fun
  | [d1, d2, d3] => { results := [.lit (.bool false)], args := [d1, d2, d3] }
  | _ => none }
def WalTornWrongFalsely : Prop := walTornRow.holds Tryz.pinned (OpenSpec.ofChange walTornWrong)

/-- 'alluviumlaw10.WalGens': WHATEVER THE INPUT: true; the input reads as it did. -/
def walGensSpec : ChangeSpec := { name := "walGens", fn := fun _ => fun
  | [d1, d2, d3] => { results := [.lit (.bool true)], args := [d1, d2, d3] }
  | _ => none }
def walGensRow : OpenClaim := { program := "ytipdeiiipdnacaagreat", sum := "e659556ae90c318d847df95d593e8c457fa903020a5dc0db1e6387e6eb5e40a6", func := "alluvium/alluviumlaw10.WalGens", spec := "walGens", unfollowed := true, recurses := true, apart := false }
def WalGensSaid : Prop := walGensRow.holds Tryz.pinned (OpenSpec.ofChange walGensSpec)

/-- ITS FALSE NEIGHBOUR: 'it returns false'. Refute it at one input. -/
def walGensWrong : ChangeSpec := { name := "walGens", fn := fun _ => fun
  | [d1, d2, d3] => { results := [.lit (.bool false)], args := [d1, d2, d3] }
  | _ => none }
def WalGensWrongFalsely : Prop := walGensRow.holds Tryz.pinned (OpenSpec.ofChange walGensWrong)

/-- 'alluviumlaw10.WalNothing': WHATEVER THE INPUT: true; the input reads as it did. -/
def walNothingSpec : ChangeSpec := { name := "walNothing", fn := fun _ => fun
  | [d1, d2, d3] => { results := [.lit (.bool true)], args := [d1, d2, d3] }
  | _ => none }
def walNothingRow : OpenClaim := { program := "ytipdeiiipdnacaagreat", sum := "e659556ae90c318d847df95d593e8c457fa903020a5dc0db1e6387e6eb5e40a6", func := "alluvium/alluviumlaw10.WalNothing", spec := "walNothing", unfollowed := true, recurses := true, apart := false }
def WalNothingSaid : Prop := walNothingRow.holds Tryz.pinned (OpenSpec.ofChange walNothingSpec)

/-- ITS FALSE NEIGHBOUR: 'it returns false'. Refute it at one input. -/
def walNothingWrong : ChangeSpec := { name := "walNothing", fn := fun _ => fun
  | [d1, d2, d3] => { results := [.lit (.bool false)], args := [d1, d2, d3] }
  | _ => none }
def WalNothingWrongFalsely : Prop := walNothingRow.holds Tryz.pinned (OpenSpec.ofChange walNothingWrong)

/- THE SECOND FORM. 'bulk': how many values and letters a reading holds, each counted each time it is reached (what is shared counts as often as it is met; a slice's spare places count too). A statement '..UptoSaid' is the law's where the arguments, and the package variables that the reading takes, are together of bulk at most 1048576: NARROWER than '..Said'. Prove '..Said' where nothing that the law and all that it calls make is longer than what came in: it says more and counts as full. Else prove '..UptoSaid'. A law counts once. -/
mutual
def uptoBulk {H : Type} : DataW H → Nat
  | .lit (.string bytes) => bytes.length + 1
  | .lit _ => 1
  | .nil => 1
  | .ptr d => uptoBulk d + 1
  | .slice elems spare => uptoBulkAll elems + uptoBulkAll spare + 1
  | .agg parts => uptoBulkAll parts + 1
  | .iface _ d => uptoBulk d + 1
  | .map entries => uptoBulkEntries entries + 1
  | .held _ => 1
def uptoBulkAll {H : Type} : List (DataW H) → Nat
  | [] => 0
  | d :: r => uptoBulk d + uptoBulkAll r
def uptoBulkEntries {H : Type} : List (Lit × DataW H) → Nat
  | [] => 0
  | x :: r => uptoBulkEntry x + uptoBulkEntries r
def uptoBulkEntry {H : Type} : Lit × DataW H → Nat
  | (.string bytes, d) => bytes.length + uptoBulk d + 1
  | (_, d) => uptoBulk d + 1
 end
def uptoSmall : (H : Type) → List (DataW H) → Bool := fun _ ds => decide (uptoBulkAll ds ≤ 1048576)
def OpenSpec.upto (s : _root_.Go.ChangeSpec) : _root_.Go.OpenSpec := { _root_.Go.OpenSpec.ofChange s with cond := some uptoSmall }

/-- 'alluviumlaw10.WalBack', WHERE WHAT IT READS IS OF BULK AT MOST 1048576: true; the input reads as it did. -/
def walBackUptoRow : OpenClaim := { program := "ytipdeiiipdnacaagreat", sum := "e659556ae90c318d847df95d593e8c457fa903020a5dc0db1e6387e6eb5e40a6", func := "alluvium/alluviumlaw10.WalBack", spec := "walBack", unfollowed := true, recurses := true, apart := false, narrowed := true }
def WalBackUptoSaid : Prop := walBackUptoRow.holds Tryz.pinned (OpenSpec.upto walBackSpec)

/-- 'alluviumlaw10.WalTorn', WHERE WHAT IT READS IS OF BULK AT MOST 1048576: true; the input reads as it did. -/
def walTornUptoRow : OpenClaim := { program := "ytipdeiiipdnacaagreat", sum := "e659556ae90c318d847df95d593e8c457fa903020a5dc0db1e6387e6eb5e40a6", func := "alluvium/alluviumlaw10.WalTorn", spec := "walTorn", unfollowed := true, recurses := true, apart := false, narrowed := true }
def WalTornUptoSaid : Prop := walTornUptoRow.holds Tryz.pinned (OpenSpec.upto walTornSpec)

/-- 'alluviumlaw10.WalGens', WHERE WHAT IT READS IS OF BULK AT MOST 1048576: true; the input reads as it did. -/
def walGensUptoRow : OpenClaim := { program := "ytipdeiiipdnacaagreat", sum := "e659556ae90c318d847df95d593e8c457fa903020a5dc0db1e6387e6eb5e40a6", func := "alluvium/alluviumlaw10.WalGens", spec := "walGens", unfollowed := true, recurses := true, apart := false, narrowed := true }
def WalGensUptoSaid : Prop := walGensUptoRow.holds Tryz.pinned (OpenSpec.upto walGensSpec)

/-- 'alluviumlaw10.WalNothing', WHERE WHAT IT READS IS OF BULK AT MOST 1048576: true; the input reads as it did. -/
def walNothingUptoRow : OpenClaim := { program := "ytipdeiiipdnacaagreat", sum := "e659556ae90c318d847df95d593e8c457fa903020a5dc0db1e6387e6eb5e40a6", func := "alluvium/alluviumlaw10.WalNothing", spec := "walNothing", unfollowed := true, recurses := true, apart := false, narrowed := true }
def WalNothingUptoSaid : Prop := walNothingUptoRow.holds Tryz.pinned (OpenSpec.upto walNothingSpec)

end Rows
end Go.Proofs.YtipdeiiipdnacaaGreat
