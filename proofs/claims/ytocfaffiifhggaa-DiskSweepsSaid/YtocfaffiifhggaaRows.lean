/-
  No cell of these rows narrows 'for every input' (looked for: loops, veiled, ifaces, maps, wideKeys, modest, calm, conditions, laid).
  DERIVED. THE GIVEN ROWS OF THIS SEAT. 5 by the template 'for every input the law returns true; each argument reads behind the call as it read before'; 0 by the template 'total and deterministic' (their statements: YtocfaffiifhggaaTotals.lean).
  GIVEN WITH THE SEED: the statements are not yours to turn. If you find one false, say at which input.
  Laid BY PROGRAM, IN A SANDBOX (cutbox-rows.mjs): the forced cells as the released guide's own fill.sh prints them over the translation 87f1c2abf6330998… (all of the seat's roots in one cut). By AI agents, Wed Nov 11 2026. No macro, syntax, notation, axiom, sorry.
-/
import Derived.Test.YtocfaffiifhggaaChecked
import GoSem.Claim
import GoSem.ClaimJoined
import GoSem.ClaimMapViews
import Derived.JoinedTies
import Derived.KernelRfl
namespace Go.Proofs.Ytocfaffiifhggaa
/- THE CELL 'sum', in the pinned program and in every row, IS THE sha256 OF THE DUMP (.gsa) THAT YtocfaffiifhggaaProg.lean LOADS. Nothing in Lean hashes anything: it is a label: what it is worth is what the hold of that sum in a sandbox is worth. -/
noncomputable def Try.pinned : Pinned := { name := "ytocfaffiifhggaa", sum := "87f1c2abf63309986511a7f14a238e465894a21fcefb39d66a20bb9cdbf8cbf7", checked := Try.checked }
namespace Rows
def none {H : Type} : Left H := { results := [], args := [] }

/-- 'alluviumlaw16.DiskSweeps': WHATEVER THE INPUT: true; the input reads as it did. -/
def diskSweepsSpec : ChangeSpec := { name := "diskSweeps", fn := fun _ => fun
  | [d1, d2] => { results := [.lit (.bool true)], args := [d1, d2] }
  | _ => none }
def diskSweepsRow : OpenClaim := { program := "ytocfaffiifhggaa", sum := "87f1c2abf63309986511a7f14a238e465894a21fcefb39d66a20bb9cdbf8cbf7", func := "alluvium/alluviumlaw16.DiskSweeps", spec := "diskSweeps", inPlace := ["maps.clone"], unfollowed := true, recurses := true, apart := false }
def DiskSweepsSaid : Prop := diskSweepsRow.holds Try.pinned (OpenSpec.ofChange diskSweepsSpec)

/-- ITS FALSE NEIGHBOUR: 'it returns false'. Refute it at one input. -/
def diskSweepsWrong : ChangeSpec := { name := "diskSweeps", fn := fun _ => fun
  | [d1, d2] => { results := [.lit (.bool false)], args := [d1, d2] }
  | _ => none }
def DiskSweepsWrongFalsely : Prop := diskSweepsRow.holds Try.pinned (OpenSpec.ofChange diskSweepsWrong)

/-- 'alluviumlaw16.DiskTwo': WHATEVER THE INPUT: true; the input reads as it did. -/
def diskTwoSpec : ChangeSpec := { name := "diskTwo", fn := fun _ => fun
  | [d1, d2, d3] => { results := [.lit (.bool true)], args := [d1, d2, d3] }
  | _ => none }
def diskTwoRow : OpenClaim := { program := "ytocfaffiifhggaa", sum := "87f1c2abf63309986511a7f14a238e465894a21fcefb39d66a20bb9cdbf8cbf7", func := "alluvium/alluviumlaw16.DiskTwo", spec := "diskTwo", inPlace := ["maps.clone"], unfollowed := true, recurses := true, apart := false }
def DiskTwoSaid : Prop := diskTwoRow.holds Try.pinned (OpenSpec.ofChange diskTwoSpec)

/-- ITS FALSE NEIGHBOUR: 'it returns false'. Refute it at one input. -/
def diskTwoWrong : ChangeSpec := { name := "diskTwo", fn := fun _ => fun
  | [d1, d2, d3] => { results := [.lit (.bool false)], args := [d1, d2, d3] }
  | _ => none }
def DiskTwoWrongFalsely : Prop := diskTwoRow.holds Try.pinned (OpenSpec.ofChange diskTwoWrong)

/-- 'alluviumlaw16.DiskRepairs': WHATEVER THE INPUT: true; the input reads as it did. -/
def diskRepairsSpec : ChangeSpec := { name := "diskRepairs", fn := fun _ => fun
  | [d1, d2, d3] => { results := [.lit (.bool true)], args := [d1, d2, d3] }
  | _ => none }
def diskRepairsRow : OpenClaim := { program := "ytocfaffiifhggaa", sum := "87f1c2abf63309986511a7f14a238e465894a21fcefb39d66a20bb9cdbf8cbf7", func := "alluvium/alluviumlaw16.DiskRepairs", spec := "diskRepairs", inPlace := ["maps.clone"], unfollowed := true, recurses := true, apart := false }
def DiskRepairsSaid : Prop := diskRepairsRow.holds Try.pinned (OpenSpec.ofChange diskRepairsSpec)

/-- ITS FALSE NEIGHBOUR: 'it returns false'. Refute it at one input. -/
def diskRepairsWrong : ChangeSpec := { name := "diskRepairs", fn := fun _ => fun
  | [d1, d2, d3] => { results := [.lit (.bool false)], args := [d1, d2, d3] }
  | _ => none }
def DiskRepairsWrongFalsely : Prop := diskRepairsRow.holds Try.pinned (OpenSpec.ofChange diskRepairsWrong)

/-- 'alluviumlaw16.DiskFull': WHATEVER THE INPUT: true; the input reads as it did. -/
def diskFullSpec : ChangeSpec := { name := "diskFull", fn := fun _ => fun
  | [d1, d2, d3, d4] => { results := [.lit (.bool true)], args := [d1, d2, d3, d4] }
  | _ => none }
def diskFullRow : OpenClaim := { program := "ytocfaffiifhggaa", sum := "87f1c2abf63309986511a7f14a238e465894a21fcefb39d66a20bb9cdbf8cbf7", func := "alluvium/alluviumlaw16.DiskFull", spec := "diskFull", inPlace := ["maps.clone"], unfollowed := true, recurses := true, apart := false }
def DiskFullSaid : Prop := diskFullRow.holds Try.pinned (OpenSpec.ofChange diskFullSpec)

/-- ITS FALSE NEIGHBOUR: 'it returns false'. Refute it at one input. -/
def diskFullWrong : ChangeSpec := { name := "diskFull", fn := fun _ => fun
  | [d1, d2, d3, d4] => { results := [.lit (.bool false)], args := [d1, d2, d3, d4] }
  | _ => none }
def DiskFullWrongFalsely : Prop := diskFullRow.holds Try.pinned (OpenSpec.ofChange diskFullWrong)

/-- 'alluviumlaw16.DiskWhole': WHATEVER THE INPUT: true; the input reads as it did. -/
def diskWholeSpec : ChangeSpec := { name := "diskWhole", fn := fun _ => fun
  | [d1, d2, d3, d4, d5] => { results := [.lit (.bool true)], args := [d1, d2, d3, d4, d5] }
  | _ => none }
def diskWholeRow : OpenClaim := { program := "ytocfaffiifhggaa", sum := "87f1c2abf63309986511a7f14a238e465894a21fcefb39d66a20bb9cdbf8cbf7", func := "alluvium/alluviumlaw16.DiskWhole", spec := "diskWhole", inPlace := ["maps.clone"], unfollowed := true, recurses := true, apart := false }
def DiskWholeSaid : Prop := diskWholeRow.holds Try.pinned (OpenSpec.ofChange diskWholeSpec)

/-- ITS FALSE NEIGHBOUR: 'it returns false'. Refute it at one input. -/
def diskWholeWrong : ChangeSpec := { name := "diskWhole", fn := fun _ => fun
  | [d1, d2, d3, d4, d5] => { results := [.lit (.bool false)], args := [d1, d2, d3, d4, d5] }
  | _ => none }
def DiskWholeWrongFalsely : Prop := diskWholeRow.holds Try.pinned (OpenSpec.ofChange diskWholeWrong)

/- THE SECOND FORM. 'bulk': how many values and letters a reading holds, each counted each time it is reached (what is shared counts as often as it is met; a slice's spare places count too). A statement '..UptoSaid' is the law's where the arguments, and the package variables that the reading takes, are together of bulk at most 1048576: NARROWER than '..Said'. Prove '..Said' where nothing that the law and all that it calls make is longer than what came in: it says more and counts as full. Else prove '..UptoSaid'. A law counts once. -/
mutual
def uptoBulk {H : Type} : DataW H → Nat
  | .lit (.string bytes) => bytes.length + 1
  | .lit _ => 1
  | .nil => 1
  | .ptr d => uptoBulk d + 1
  | .slice elems spare => uptoBulkAll elems + uptoBulkAll spare + 1
  | .agg parts => uptoBulkAll parts + 1
  | .iface _ d => uptoBulk d + 1
  | .map entries => uptoBulkEntries entries + 1
  | .held _ => 1
def uptoBulkAll {H : Type} : List (DataW H) → Nat
  | [] => 0
  | d :: r => uptoBulk d + uptoBulkAll r
def uptoBulkEntries {H : Type} : List (Lit × DataW H) → Nat
  | [] => 0
  | x :: r => uptoBulkEntry x + uptoBulkEntries r
def uptoBulkEntry {H : Type} : Lit × DataW H → Nat
  | (.string bytes, d) => bytes.length + uptoBulk d + 1
  | (_, d) => uptoBulk d + 1
 end
def uptoSmall : (H : Type) → List (DataW H) → Bool := fun _ ds => decide (uptoBulkAll ds ≤ 1048576)
def OpenSpec.upto (s : _root_.Go.ChangeSpec) : _root_.Go.OpenSpec := { _root_.Go.OpenSpec.ofChange s with cond := some uptoSmall }

/-- 'alluviumlaw16.DiskSweeps', WHERE WHAT IT READS IS OF BULK AT MOST 1048576: true; the input reads as it did. -/
def diskSweepsUptoRow : OpenClaim := { program := "ytocfaffiifhggaa", sum := "87f1c2abf63309986511a7f14a238e465894a21fcefb39d66a20bb9cdbf8cbf7", func := "alluvium/alluviumlaw16.DiskSweeps", spec := "diskSweeps", inPlace := ["maps.clone"], unfollowed := true, recurses := true, apart := false, narrowed := true }
def DiskSweepsUptoSaid : Prop := diskSweepsUptoRow.holds Try.pinned (OpenSpec.upto diskSweepsSpec)

/-- 'alluviumlaw16.DiskTwo', WHERE WHAT IT READS IS OF BULK AT MOST 1048576: true; the input reads as it did. -/
def diskTwoUptoRow : OpenClaim := { program := "ytocfaffiifhggaa", sum := "87f1c2abf63309986511a7f14a238e465894a21fcefb39d66a20bb9cdbf8cbf7", func := "alluvium/alluviumlaw16.DiskTwo", spec := "diskTwo", inPlace := ["maps.clone"], unfollowed := true, recurses := true, apart := false, narrowed := true }
def DiskTwoUptoSaid : Prop := diskTwoUptoRow.holds Try.pinned (OpenSpec.upto diskTwoSpec)

/-- 'alluviumlaw16.DiskRepairs', WHERE WHAT IT READS IS OF BULK AT MOST 1048576: true; the input reads as it did. -/
def diskRepairsUptoRow : OpenClaim := { program := "ytocfaffiifhggaa", sum := "87f1c2abf63309986511a7f14a238e465894a21fcefb39d66a20bb9cdbf8cbf7", func := "alluvium/alluviumlaw16.DiskRepairs", spec := "diskRepairs", inPlace := ["maps.clone"], unfollowed := true, recurses := true, apart := false, narrowed := true }
def DiskRepairsUptoSaid : Prop := diskRepairsUptoRow.holds Try.pinned (OpenSpec.upto diskRepairsSpec)

/-- 'alluviumlaw16.DiskFull', WHERE WHAT IT READS IS OF BULK AT MOST 1048576: true; the input reads as it did. -/
def diskFullUptoRow : OpenClaim := { program := "ytocfaffiifhggaa", sum := "87f1c2abf63309986511a7f14a238e465894a21fcefb39d66a20bb9cdbf8cbf7", func := "alluvium/alluviumlaw16.DiskFull", spec := "diskFull", inPlace := ["maps.clone"], unfollowed := true, recurses := true, apart := false, narrowed := true }
def DiskFullUptoSaid : Prop := diskFullUptoRow.holds Try.pinned (OpenSpec.upto diskFullSpec)

/-- 'alluviumlaw16.DiskWhole', WHERE WHAT IT READS IS OF BULK AT MOST 1048576: true; the input reads as it did. -/
def diskWholeUptoRow : OpenClaim := { program := "ytocfaffiifhggaa", sum := "87f1c2abf63309986511a7f14a238e465894a21fcefb39d66a20bb9cdbf8cbf7", func := "alluvium/alluviumlaw16.DiskWhole", spec := "diskWhole", inPlace := ["maps.clone"], unfollowed := true, recurses := true, apart := false, narrowed := true }
def DiskWholeUptoSaid : Prop := diskWholeUptoRow.holds Try.pinned (OpenSpec.upto diskWholeSpec)

end Rows
end Go.Proofs.Ytocfaffiifhggaa
