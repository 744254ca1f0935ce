/-
  No cell of these rows narrows 'for every input' (looked for: loops, veiled, ifaces, maps, wideKeys, modest, calm, conditions, laid).
  DERIVED. THE GIVEN ROWS OF THIS SEAT. 5 by the template 'for every input the law returns true; each argument reads behind the call as it read before'; 0 by the template 'total and deterministic' (their statements: YtphkmhajjnnbaaaTotals.lean).
  GIVEN WITH THE SEED: the statements are not yours to turn. If you find one false, say at which input.
  Laid BY PROGRAM, IN A SANDBOX (cutbox-rows.mjs): the forced cells as the released guide's own fill.sh prints them over the translation 6036a3134fc5d95b… (all of the seat's roots in one cut). By AI agents, Wed Nov 11 2026. No macro, syntax, notation, axiom, sorry.
-/
import Derived.Test.YtphkmhajjnnbaaaChecked
import GoSem.Claim
import GoSem.ClaimJoined
import GoSem.ClaimMapViews
import Derived.JoinedTies
import Derived.KernelRfl
namespace Go.Proofs.Ytphkmhajjnnbaaa
/- THE CELL 'sum', in the pinned program and in every row, IS THE sha256 OF THE DUMP (.gsa) THAT YtphkmhajjnnbaaaProg.lean LOADS. Nothing in Lean hashes anything: it is a label: what it is worth is what the hold of that sum in a sandbox is worth. -/
noncomputable def Try.pinned : Pinned := { name := "ytphkmhajjnnbaaa", sum := "6036a3134fc5d95bc353474f6ba8b400cbfbdcc84dfd78db0dfd8b616e37499b", checked := Try.checked }
namespace Rows
def none {H : Type} : Left H := { results := [], args := [] }

/-- 'alluviumlaw15.SimfsAgain': WHATEVER THE INPUT: true; the input reads as it did. -/
def simfsAgainSpec : ChangeSpec := { name := "simfsAgain", fn := fun _ => fun
  | [d1, d2, d3] => { results := [.lit (.bool true)], args := [d1, d2, d3] }
  | _ => none }
def simfsAgainRow : OpenClaim := { program := "ytphkmhajjnnbaaa", sum := "6036a3134fc5d95bc353474f6ba8b400cbfbdcc84dfd78db0dfd8b616e37499b", func := "alluvium/alluviumlaw15.SimfsAgain", spec := "simfsAgain", inPlace := ["maps.clone"], unfollowed := true, recurses := true, apart := false }
def SimfsAgainSaid : Prop := simfsAgainRow.holds Try.pinned (OpenSpec.ofChange simfsAgainSpec)

/-- ITS FALSE NEIGHBOUR: 'it returns false'. Refute it at one input. -/
def simfsAgainWrong : ChangeSpec := { name := "simfsAgain", fn := fun _ => fun
  | [d1, d2, d3] => { results := [.lit (.bool false)], args := [d1, d2, d3] }
  | _ => none }
def SimfsAgainWrongFalsely : Prop := simfsAgainRow.holds Try.pinned (OpenSpec.ofChange simfsAgainWrong)

/-- 'alluviumlaw15.SimfsRoom': WHATEVER THE INPUT: true; the input reads as it did. -/
def simfsRoomSpec : ChangeSpec := { name := "simfsRoom", fn := fun _ => fun
  | [d1, d2] => { results := [.lit (.bool true)], args := [d1, d2] }
  | _ => none }
def simfsRoomRow : OpenClaim := { program := "ytphkmhajjnnbaaa", sum := "6036a3134fc5d95bc353474f6ba8b400cbfbdcc84dfd78db0dfd8b616e37499b", func := "alluvium/alluviumlaw15.SimfsRoom", spec := "simfsRoom", inPlace := ["maps.clone"], unfollowed := true, recurses := true, apart := false }
def SimfsRoomSaid : Prop := simfsRoomRow.holds Try.pinned (OpenSpec.ofChange simfsRoomSpec)

/-- ITS FALSE NEIGHBOUR: 'it returns false'. Refute it at one input. -/
def simfsRoomWrong : ChangeSpec := { name := "simfsRoom", fn := fun _ => fun
  | [d1, d2] => { results := [.lit (.bool false)], args := [d1, d2] }
  | _ => none }
def SimfsRoomWrongFalsely : Prop := simfsRoomRow.holds Try.pinned (OpenSpec.ofChange simfsRoomWrong)

/-- 'alluviumlaw15.SimfsWhole': WHATEVER THE INPUT: true; the input reads as it did. -/
def simfsWholeSpec : ChangeSpec := { name := "simfsWhole", fn := fun _ => fun
  | [d1, d2] => { results := [.lit (.bool true)], args := [d1, d2] }
  | _ => none }
def simfsWholeRow : OpenClaim := { program := "ytphkmhajjnnbaaa", sum := "6036a3134fc5d95bc353474f6ba8b400cbfbdcc84dfd78db0dfd8b616e37499b", func := "alluvium/alluviumlaw15.SimfsWhole", spec := "simfsWhole", inPlace := ["maps.clone"], unfollowed := true, recurses := true, apart := false }
def SimfsWholeSaid : Prop := simfsWholeRow.holds Try.pinned (OpenSpec.ofChange simfsWholeSpec)

/-- ITS FALSE NEIGHBOUR: 'it returns false'. Refute it at one input. -/
def simfsWholeWrong : ChangeSpec := { name := "simfsWhole", fn := fun _ => fun
  | [d1, d2] => { results := [.lit (.bool false)], args := [d1, d2] }
  | _ => none }
def SimfsWholeWrongFalsely : Prop := simfsWholeRow.holds Try.pinned (OpenSpec.ofChange simfsWholeWrong)

/-- 'alluviumlaw15.SimfsDead': WHATEVER THE INPUT: true; the input reads as it did. -/
def simfsDeadSpec : ChangeSpec := { name := "simfsDead", fn := fun _ => fun
  | [d1, d2] => { results := [.lit (.bool true)], args := [d1, d2] }
  | _ => none }
def simfsDeadRow : OpenClaim := { program := "ytphkmhajjnnbaaa", sum := "6036a3134fc5d95bc353474f6ba8b400cbfbdcc84dfd78db0dfd8b616e37499b", func := "alluvium/alluviumlaw15.SimfsDead", spec := "simfsDead", inPlace := ["maps.clone"], unfollowed := true, recurses := true, apart := false }
def SimfsDeadSaid : Prop := simfsDeadRow.holds Try.pinned (OpenSpec.ofChange simfsDeadSpec)

/-- ITS FALSE NEIGHBOUR: 'it returns false'. Refute it at one input. -/
def simfsDeadWrong : ChangeSpec := { name := "simfsDead", fn := fun _ => fun
  | [d1, d2] => { results := [.lit (.bool false)], args := [d1, d2] }
  | _ => none }
def SimfsDeadWrongFalsely : Prop := simfsDeadRow.holds Try.pinned (OpenSpec.ofChange simfsDeadWrong)

/-- 'alluviumlaw15.SimfsRenames': WHATEVER THE INPUT: true; the input reads as it did. -/
def simfsRenamesSpec : ChangeSpec := { name := "simfsRenames", fn := fun _ => fun
  | [d1, d2, d3] => { results := [.lit (.bool true)], args := [d1, d2, d3] }
  | _ => none }
def simfsRenamesRow : OpenClaim := { program := "ytphkmhajjnnbaaa", sum := "6036a3134fc5d95bc353474f6ba8b400cbfbdcc84dfd78db0dfd8b616e37499b", func := "alluvium/alluviumlaw15.SimfsRenames", spec := "simfsRenames", inPlace := ["maps.clone"], unfollowed := true, recurses := true, apart := false }
def SimfsRenamesSaid : Prop := simfsRenamesRow.holds Try.pinned (OpenSpec.ofChange simfsRenamesSpec)

/-- ITS FALSE NEIGHBOUR: 'it returns false'. Refute it at one input. -/
def simfsRenamesWrong : ChangeSpec := { name := "simfsRenames", fn := fun _ => fun
  | [d1, d2, d3] => { results := [.lit (.bool false)], args := [d1, d2, d3] }
  | _ => none }
def SimfsRenamesWrongFalsely : Prop := simfsRenamesRow.holds Try.pinned (OpenSpec.ofChange simfsRenamesWrong)

/- THE SECOND FORM. 'bulk': how many values and letters a reading holds, each counted each time it is reached (what is shared counts as often as it is met; a slice's spare places count too). A statement '..UptoSaid' is the law's where the arguments, and the package variables that the reading takes, are together of bulk at most 1048576: NARROWER than '..Said'. Prove '..Said' where nothing that the law and all that it calls make is longer than what came in: it says more and counts as full. Else prove '..UptoSaid'. A law counts once. -/
mutual
def uptoBulk {H : Type} : DataW H → Nat
  | .lit (.string bytes) => bytes.length + 1
  | .lit _ => 1
  | .nil => 1
  | .ptr d => uptoBulk d + 1
  | .slice elems spare => uptoBulkAll elems + uptoBulkAll spare + 1
  | .agg parts => uptoBulkAll parts + 1
  | .iface _ d => uptoBulk d + 1
  | .map entries => uptoBulkEntries entries + 1
  | .held _ => 1
def uptoBulkAll {H : Type} : List (DataW H) → Nat
  | [] => 0
  | d :: r => uptoBulk d + uptoBulkAll r
def uptoBulkEntries {H : Type} : List (Lit × DataW H) → Nat
  | [] => 0
  | x :: r => uptoBulkEntry x + uptoBulkEntries r
def uptoBulkEntry {H : Type} : Lit × DataW H → Nat
  | (.string bytes, d) => bytes.length + uptoBulk d + 1
  | (_, d) => uptoBulk d + 1
 end
def uptoSmall : (H : Type) → List (DataW H) → Bool := fun _ ds => decide (uptoBulkAll ds ≤ 1048576)
def OpenSpec.upto (s : _root_.Go.ChangeSpec) : _root_.Go.OpenSpec := { _root_.Go.OpenSpec.ofChange s with cond := some uptoSmall }

/-- 'alluviumlaw15.SimfsAgain', WHERE WHAT IT READS IS OF BULK AT MOST 1048576: true; the input reads as it did. -/
def simfsAgainUptoRow : OpenClaim := { program := "ytphkmhajjnnbaaa", sum := "6036a3134fc5d95bc353474f6ba8b400cbfbdcc84dfd78db0dfd8b616e37499b", func := "alluvium/alluviumlaw15.SimfsAgain", spec := "simfsAgain", inPlace := ["maps.clone"], unfollowed := true, recurses := true, apart := false, narrowed := true }
def SimfsAgainUptoSaid : Prop := simfsAgainUptoRow.holds Try.pinned (OpenSpec.upto simfsAgainSpec)

/-- 'alluviumlaw15.SimfsRoom', WHERE WHAT IT READS IS OF BULK AT MOST 1048576: true; the input reads as it did. -/
def simfsRoomUptoRow : OpenClaim := { program := "ytphkmhajjnnbaaa", sum := "6036a3134fc5d95bc353474f6ba8b400cbfbdcc84dfd78db0dfd8b616e37499b", func := "alluvium/alluviumlaw15.SimfsRoom", spec := "simfsRoom", inPlace := ["maps.clone"], unfollowed := true, recurses := true, apart := false, narrowed := true }
def SimfsRoomUptoSaid : Prop := simfsRoomUptoRow.holds Try.pinned (OpenSpec.upto simfsRoomSpec)

/-- 'alluviumlaw15.SimfsWhole', WHERE WHAT IT READS IS OF BULK AT MOST 1048576: true; the input reads as it did. -/
def simfsWholeUptoRow : OpenClaim := { program := "ytphkmhajjnnbaaa", sum := "6036a3134fc5d95bc353474f6ba8b400cbfbdcc84dfd78db0dfd8b616e37499b", func := "alluvium/alluviumlaw15.SimfsWhole", spec := "simfsWhole", inPlace := ["maps.clone"], unfollowed := true, recurses := true, apart := false, narrowed := true }
def SimfsWholeUptoSaid : Prop := simfsWholeUptoRow.holds Try.pinned (OpenSpec.upto simfsWholeSpec)

/-- 'alluviumlaw15.SimfsDead', WHERE WHAT IT READS IS OF BULK AT MOST 1048576: true; the input reads as it did. -/
def simfsDeadUptoRow : OpenClaim := { program := "ytphkmhajjnnbaaa", sum := "6036a3134fc5d95bc353474f6ba8b400cbfbdcc84dfd78db0dfd8b616e37499b", func := "alluvium/alluviumlaw15.SimfsDead", spec := "simfsDead", inPlace := ["maps.clone"], unfollowed := true, recurses := true, apart := false, narrowed := true }
def SimfsDeadUptoSaid : Prop := simfsDeadUptoRow.holds Try.pinned (OpenSpec.upto simfsDeadSpec)

/-- 'alluviumlaw15.SimfsRenames', WHERE WHAT IT READS IS OF BULK AT MOST 1048576: true; the input reads as it did. -/
def simfsRenamesUptoRow : OpenClaim := { program := "ytphkmhajjnnbaaa", sum := "6036a3134fc5d95bc353474f6ba8b400cbfbdcc84dfd78db0dfd8b616e37499b", func := "alluvium/alluviumlaw15.SimfsRenames", spec := "simfsRenames", inPlace := ["maps.clone"], unfollowed := true, recurses := true, apart := false, narrowed := true }
def SimfsRenamesUptoSaid : Prop := simfsRenamesUptoRow.holds Try.pinned (OpenSpec.upto simfsRenamesSpec)

end Rows
end Go.Proofs.Ytphkmhajjnnbaaa
