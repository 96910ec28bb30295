/-
  No cell of these rows narrows 'for every input' (looked for: loops, veiled, ifaces, maps, wideKeys, modest, calm, conditions, laid).
  DERIVED. THE GIVEN ROWS OF THIS SEAT. 5 by the template 'for every input the law returns true; each argument reads behind the call as it read before'; 0 by the template 'total and deterministic' (their statements: YtfpofaniicegaaaTotals.lean).
  GIVEN WITH THE SEED: the statements are not yours to turn. If you find one false, say at which input.
  Laid BY PROGRAM, IN A SANDBOX (cutbox-rows.mjs): the forced cells as the released guide's own fill.sh prints them over the translation 9c4ee06f2fe5a457… (all of the seat's roots in one cut). By AI agents, Wed Nov 11 2026. No macro, syntax, notation, axiom, sorry.
-/
import Derived.Test.YtfpofaniicegaaaChecked
import GoSem.Claim
import GoSem.ClaimJoined
import GoSem.ClaimMapViews
import Derived.JoinedTies
import Derived.KernelRfl
namespace Go.Proofs.Ytfpofaniicegaaa
/- THE CELL 'sum', in the pinned program and in every row, IS THE sha256 OF THE DUMP (.gsa) THAT YtfpofaniicegaaaProg.lean LOADS. Nothing in Lean hashes anything: it is a label: what it is worth is what the hold of that sum in a sandbox is worth. -/
noncomputable def Try.pinned : Pinned := { name := "ytfpofaniicegaaa", sum := "9c4ee06f2fe5a457ed255ae5c1ee855f67e08228d4fba38ac01f206dda6198cb", checked := Try.checked }
namespace Rows
def none {H : Type} : Left H := { results := [], args := [] }

/-- 'bulkheadlaw4.WalkEntries': WHATEVER THE INPUT: true; the input reads as it did. -/
def walkEntriesSpec : ChangeSpec := { name := "walkEntries", fn := fun _ => fun
  | [d1, d2, d3] => { results := [.lit (.bool true)], args := [d1, d2, d3] }
  | _ => none }
def walkEntriesRow : OpenClaim := { program := "ytfpofaniicegaaa", sum := "9c4ee06f2fe5a457ed255ae5c1ee855f67e08228d4fba38ac01f206dda6198cb", func := "bulkhead/bulkheadlaw4.WalkEntries", spec := "walkEntries", apart := false }
def WalkEntriesSaid : Prop := walkEntriesRow.holds Try.pinned (OpenSpec.ofChange walkEntriesSpec)

/-- ITS FALSE NEIGHBOUR: 'it returns false'. Refute it at one input. -/
def walkEntriesWrong : ChangeSpec := { name := "walkEntries", fn := fun _ => fun
  | [d1, d2, d3] => { results := [.lit (.bool false)], args := [d1, d2, d3] }
  | _ => none }
def WalkEntriesWrongFalsely : Prop := walkEntriesRow.holds Try.pinned (OpenSpec.ofChange walkEntriesWrong)

/-- 'bulkheadlaw4.WalkBack': WHATEVER THE INPUT: true; the input reads as it did. -/
def walkBackSpec : ChangeSpec := { name := "walkBack", fn := fun _ => fun
  | [d1, d2, d3] => { results := [.lit (.bool true)], args := [d1, d2, d3] }
  | _ => none }
def walkBackRow : OpenClaim := { program := "ytfpofaniicegaaa", sum := "9c4ee06f2fe5a457ed255ae5c1ee855f67e08228d4fba38ac01f206dda6198cb", func := "bulkhead/bulkheadlaw4.WalkBack", spec := "walkBack", apart := false }
def WalkBackSaid : Prop := walkBackRow.holds Try.pinned (OpenSpec.ofChange walkBackSpec)

/-- ITS FALSE NEIGHBOUR: 'it returns false'. Refute it at one input. -/
def walkBackWrong : ChangeSpec := { name := "walkBack", fn := fun _ => fun
  | [d1, d2, d3] => { results := [.lit (.bool false)], args := [d1, d2, d3] }
  | _ => none }
def WalkBackWrongFalsely : Prop := walkBackRow.holds Try.pinned (OpenSpec.ofChange walkBackWrong)

/-- 'bulkheadlaw4.WalkBytes': WHATEVER THE INPUT: true; the input reads as it did. -/
def walkBytesSpec : ChangeSpec := { name := "walkBytes", fn := fun _ => fun
  | [d1, d2, d3, d4, d5, d6] => { results := [.lit (.bool true)], args := [d1, d2, d3, d4, d5, d6] }
  | _ => none }
def walkBytesRow : OpenClaim := { program := "ytfpofaniicegaaa", sum := "9c4ee06f2fe5a457ed255ae5c1ee855f67e08228d4fba38ac01f206dda6198cb", func := "bulkhead/bulkheadlaw4.WalkBytes", spec := "walkBytes", unfollowed := true, recurses := true, apart := false }
def WalkBytesSaid : Prop := walkBytesRow.holds Try.pinned (OpenSpec.ofChange walkBytesSpec)

/-- ITS FALSE NEIGHBOUR: 'it returns false'. Refute it at one input. -/
def walkBytesWrong : ChangeSpec := { name := "walkBytes", fn := fun _ => fun
  | [d1, d2, d3, d4, d5, d6] => { results := [.lit (.bool false)], args := [d1, d2, d3, d4, d5, d6] }
  | _ => none }
def WalkBytesWrongFalsely : Prop := walkBytesRow.holds Try.pinned (OpenSpec.ofChange walkBytesWrong)

/-- 'bulkheadlaw4.WalkLeaves': WHATEVER THE INPUT: true; the input reads as it did. -/
def walkLeavesSpec : ChangeSpec := { name := "walkLeaves", fn := fun _ => fun
  | [d1, d2, d3, d4] => { results := [.lit (.bool true)], args := [d1, d2, d3, d4] }
  | _ => none }
def walkLeavesRow : OpenClaim := { program := "ytfpofaniicegaaa", sum := "9c4ee06f2fe5a457ed255ae5c1ee855f67e08228d4fba38ac01f206dda6198cb", func := "bulkhead/bulkheadlaw4.WalkLeaves", spec := "walkLeaves", unfollowed := true, recurses := true, apart := false }
def WalkLeavesSaid : Prop := walkLeavesRow.holds Try.pinned (OpenSpec.ofChange walkLeavesSpec)

/-- ITS FALSE NEIGHBOUR: 'it returns false'. Refute it at one input. -/
def walkLeavesWrong : ChangeSpec := { name := "walkLeaves", fn := fun _ => fun
  | [d1, d2, d3, d4] => { results := [.lit (.bool false)], args := [d1, d2, d3, d4] }
  | _ => none }
def WalkLeavesWrongFalsely : Prop := walkLeavesRow.holds Try.pinned (OpenSpec.ofChange walkLeavesWrong)

/-- 'bulkheadlaw4.WalkNames': WHATEVER THE INPUT: true; the input reads as it did. -/
def walkNamesSpec : ChangeSpec := { name := "walkNames", fn := fun _ => fun
  | [] => { results := [.lit (.bool true)], args := [] }
  | _ => none }
def walkNamesRow : OpenClaim := { program := "ytfpofaniicegaaa", sum := "9c4ee06f2fe5a457ed255ae5c1ee855f67e08228d4fba38ac01f206dda6198cb", func := "bulkhead/bulkheadlaw4.WalkNames", spec := "walkNames", unfollowed := true, recurses := true, apart := false }
def WalkNamesSaid : Prop := walkNamesRow.holds Try.pinned (OpenSpec.ofChange walkNamesSpec)

/-- ITS FALSE NEIGHBOUR: 'it returns false'. Refute it at one input. -/
def walkNamesWrong : ChangeSpec := { name := "walkNames", fn := fun _ => fun
  | [] => { results := [.lit (.bool false)], args := [] }
  | _ => none }
def WalkNamesWrongFalsely : Prop := walkNamesRow.holds Try.pinned (OpenSpec.ofChange walkNamesWrong)

/- THE SECOND FORM. 'bulk': how many values and letters a reading holds, each counted each time it is reached (what is shared counts as often as it is met; a slice's spare places count too). A statement '..UptoSaid' is the law's where the arguments, and the package variables that the reading takes, are together of bulk at most 1048576: NARROWER than '..Said'. Prove '..Said' where nothing that the law and all that it calls make is longer than what came in: it says more and counts as full. Else prove '..UptoSaid'. A law counts once. -/
mutual
def uptoBulk {H : Type} : DataW H → Nat
  | .lit (.string bytes) => bytes.length + 1
  | .lit _ => 1
  | .nil => 1
  | .ptr d => uptoBulk d + 1
  | .slice elems spare => uptoBulkAll elems + uptoBulkAll spare + 1
  | .agg parts => uptoBulkAll parts + 1
  | .iface _ d => uptoBulk d + 1
  | .map entries => uptoBulkEntries entries + 1
  | .held _ => 1
def uptoBulkAll {H : Type} : List (DataW H) → Nat
  | [] => 0
  | d :: r => uptoBulk d + uptoBulkAll r
def uptoBulkEntries {H : Type} : List (Lit × DataW H) → Nat
  | [] => 0
  | x :: r => uptoBulkEntry x + uptoBulkEntries r
def uptoBulkEntry {H : Type} : Lit × DataW H → Nat
  | (.string bytes, d) => bytes.length + uptoBulk d + 1
  | (_, d) => uptoBulk d + 1
 end
def uptoSmall : (H : Type) → List (DataW H) → Bool := fun _ ds => decide (uptoBulkAll ds ≤ 1048576)
def OpenSpec.upto (s : _root_.Go.ChangeSpec) : _root_.Go.OpenSpec := { _root_.Go.OpenSpec.ofChange s with cond := some uptoSmall }

/-- 'bulkheadlaw4.WalkEntries', WHERE WHAT IT READS IS OF BULK AT MOST 1048576: true; the input reads as it did. -/
def walkEntriesUptoRow : OpenClaim := { program := "ytfpofaniicegaaa", sum := "9c4ee06f2fe5a457ed255ae5c1ee855f67e08228d4fba38ac01f206dda6198cb", func := "bulkhead/bulkheadlaw4.WalkEntries", spec := "walkEntries", apart := false, narrowed := true }
def WalkEntriesUptoSaid : Prop := walkEntriesUptoRow.holds Try.pinned (OpenSpec.upto walkEntriesSpec)

/-- 'bulkheadlaw4.WalkBack', WHERE WHAT IT READS IS OF BULK AT MOST 1048576: true; the input reads as it did. -/
def walkBackUptoRow : OpenClaim := { program := "ytfpofaniicegaaa", sum := "9c4ee06f2fe5a457ed255ae5c1ee855f67e08228d4fba38ac01f206dda6198cb", func := "bulkhead/bulkheadlaw4.WalkBack", spec := "walkBack", apart := false, narrowed := true }
def WalkBackUptoSaid : Prop := walkBackUptoRow.holds Try.pinned (OpenSpec.upto walkBackSpec)

/-- 'bulkheadlaw4.WalkBytes', WHERE WHAT IT READS IS OF BULK AT MOST 1048576: true; the input reads as it did. -/
def walkBytesUptoRow : OpenClaim := { program := "ytfpofaniicegaaa", sum := "9c4ee06f2fe5a457ed255ae5c1ee855f67e08228d4fba38ac01f206dda6198cb", func := "bulkhead/bulkheadlaw4.WalkBytes", spec := "walkBytes", unfollowed := true, recurses := true, apart := false, narrowed := true }
def WalkBytesUptoSaid : Prop := walkBytesUptoRow.holds Try.pinned (OpenSpec.upto walkBytesSpec)

/-- 'bulkheadlaw4.WalkLeaves', WHERE WHAT IT READS IS OF BULK AT MOST 1048576: true; the input reads as it did. -/
def walkLeavesUptoRow : OpenClaim := { program := "ytfpofaniicegaaa", sum := "9c4ee06f2fe5a457ed255ae5c1ee855f67e08228d4fba38ac01f206dda6198cb", func := "bulkhead/bulkheadlaw4.WalkLeaves", spec := "walkLeaves", unfollowed := true, recurses := true, apart := false, narrowed := true }
def WalkLeavesUptoSaid : Prop := walkLeavesUptoRow.holds Try.pinned (OpenSpec.upto walkLeavesSpec)

/-- 'bulkheadlaw4.WalkNames', WHERE WHAT IT READS IS OF BULK AT MOST 1048576: true; the input reads as it did. -/
def walkNamesUptoRow : OpenClaim := { program := "ytfpofaniicegaaa", sum := "9c4ee06f2fe5a457ed255ae5c1ee855f67e08228d4fba38ac01f206dda6198cb", func := "bulkhead/bulkheadlaw4.WalkNames", spec := "walkNames", unfollowed := true, recurses := true, apart := false, narrowed := true }
def WalkNamesUptoSaid : Prop := walkNamesUptoRow.holds Try.pinned (OpenSpec.upto walkNamesSpec)

end Rows
end Go.Proofs.Ytfpofaniicegaaa
