/-
  No cell of these rows narrows 'for every input' (looked for: loops, veiled, ifaces, maps, wideKeys, modest, calm, conditions, laid).
  DERIVED. THE GIVEN ROWS OF THIS SEAT. 3 by the template 'for every input the law returns true; each argument reads behind the call as it read before'; 0 by the template 'total and deterministic' (their statements: YtchajbegjajlkaaGreatTotals.lean).
  GIVEN WITH THE SEED: the statements are not yours to turn. If you find one false, say at which input.
  Laid BY PROGRAM, IN A SANDBOX (cutbox-rows.mjs): the forced cells as the released guide's own fill.sh prints them over the translation cc6ecf6b3ccc3327… (all of the seat's roots in one cut). By AI agents, Wed Nov 11 2026. No macro, syntax, notation, axiom, sorry.
-/
import Derived.Test.YtchajbegjajlkaaGreatChecked
import GoSem.Claim
import GoSem.ClaimJoined
import GoSem.ClaimMapViews
import Derived.JoinedTies
import Derived.KernelRfl
namespace Go.Proofs.YtchajbegjajlkaaGreat
/- THE CELL 'sum', in the pinned program and in every row, IS THE sha256 OF THE DUMP (.gsa) THAT YtchajbegjajlkaaGreatProg.lean LOADS. Nothing in Lean hashes anything: it is a label: what it is worth is what the hold of that sum in a sandbox is worth. -/
noncomputable def Tryz.pinned : Pinned := { name := "ytchajbegjajlkaagreat", sum := "cc6ecf6b3ccc3327fd9dd529c5905b84604a3e08dc96068f7ef87d4cd5683967", checked := Tryz.checked }
namespace Rows
def none {H : Type} : Left H := { results := [], args := [] }

/-- 'bulkheadlaw2.SpanLaws': WHATEVER THE INPUT: true; the input reads as it did. -/
def spanLawsSpec : ChangeSpec := { name := "spanLaws", fn := fun _ => fun
  | [d1, d2, d3, d4] => { results := [.lit (.bool true)], args := [d1, d2, d3, d4] }
  | _ => none }
def spanLawsRow : OpenClaim := { program := "ytchajbegjajlkaagreat", sum := "cc6ecf6b3ccc3327fd9dd529c5905b84604a3e08dc96068f7ef87d4cd5683967", func := "bulkhead/bulkheadlaw2.SpanLaws", spec := "spanLaws", unfollowed := true, recurses := true, apart := false }
def SpanLawsSaid : Prop := spanLawsRow.holds Tryz.pinned (OpenSpec.ofChange spanLawsSpec)

/-- ITS FALSE NEIGHBOUR: 'it returns false'. Refute it at one input. -/
def spanLawsWrong : ChangeSpec := { name := "spanLaws", fn := fun _ => fun
  | [d1, d2, d3, d4] => { results := [.lit (.bool false)], args := [d1, d2, d3, d4] }
  | _ => none }
def SpanLawsWrongFalsely : Prop := spanLawsRow.holds Tryz.pinned (OpenSpec.ofChange spanLawsWrong)

/-- 'bulkheadlaw2.SpanNames': WHATEVER THE INPUT: true; the input reads as it did. -/
def spanNamesSpec : ChangeSpec := { name := "spanNames", fn := fun _ => fun
  | [] => { results := [.lit (.bool true)], args := [] }
  | _ => none }
def spanNamesRow : OpenClaim := { program := "ytchajbegjajlkaagreat", sum := "cc6ecf6b3ccc3327fd9dd529c5905b84604a3e08dc96068f7ef87d4cd5683967", func := "bulkhead/bulkheadlaw2.SpanNames", spec := "spanNames", unfollowed := true, recurses := true, apart := false }
def SpanNamesSaid : Prop := spanNamesRow.holds Tryz.pinned (OpenSpec.ofChange spanNamesSpec)

/-- ITS FALSE NEIGHBOUR: 'it returns false'. Refute it at one input. -/
def spanNamesWrong : ChangeSpec := { name := "spanNames", fn := fun _ => fun
  | [] => { results := [.lit (.bool false)], args := [] }
  | _ => none }
def SpanNamesWrongFalsely : Prop := spanNamesRow.holds Tryz.pinned (OpenSpec.ofChange spanNamesWrong)

/-- 'bulkheadlaw2.SpanPlays': WHATEVER THE INPUT: true; the input reads as it did. -/
def spanPlaysSpec : ChangeSpec := { name := "spanPlays", fn := fun _ => fun
  | [d] => { results := [.lit (.bool true)], args := [d] }
  | _ => none }
def spanPlaysRow : OpenClaim := { program := "ytchajbegjajlkaagreat", sum := "cc6ecf6b3ccc3327fd9dd529c5905b84604a3e08dc96068f7ef87d4cd5683967", func := "bulkhead/bulkheadlaw2.SpanPlays", spec := "spanPlays", unfollowed := true, recurses := true, apart := false }
def SpanPlaysSaid : Prop := spanPlaysRow.holds Tryz.pinned (OpenSpec.ofChange spanPlaysSpec)

/-- ITS FALSE NEIGHBOUR: 'it returns false'. Refute it at one input. -/
def spanPlaysWrong : ChangeSpec := { name := "spanPlays", fn := fun _ => fun
  | [d] => { results := [.lit (.bool false)], args := [d] }
  | _ => none }
def SpanPlaysWrongFalsely : Prop := spanPlaysRow.holds Tryz.pinned (OpenSpec.ofChange spanPlaysWrong)

/- THE SECOND FORM. 'bulk': how many values and letters a reading holds, each counted each time it is reached (what is shared counts as often as it is met; a slice's spare places count too). A statement '..UptoSaid' is the law's where the arguments, and the package variables that the reading takes, are together of bulk at most 1048576: NARROWER than '..Said'. Prove '..Said' where nothing that the law and all that it calls make is longer than what came in: it says more and counts as full. Else prove '..UptoSaid'. A law counts once. -/
mutual
def uptoBulk {H : Type} : DataW H → Nat
  | .lit (.string bytes) => bytes.length + 1
  | .lit _ => 1
  | .nil => 1
  | .ptr d => uptoBulk d + 1
  | .slice elems spare => uptoBulkAll elems + uptoBulkAll spare + 1
  | .agg parts => uptoBulkAll parts + 1
  | .iface _ d => uptoBulk d + 1
  | .map entries => uptoBulkEntries entries + 1
  | .held _ => 1
def uptoBulkAll {H : Type} : List (DataW H) → Nat
  | [] => 0
  | d :: r => uptoBulk d + uptoBulkAll r
def uptoBulkEntries {H : Type} : List (Lit × DataW H) → Nat
  | [] => 0
  | x :: r => uptoBulkEntry x + uptoBulkEntries r
def uptoBulkEntry {H : Type} : Lit × DataW H → Nat
  | (.string bytes, d) => bytes.length + uptoBulk d + 1
  | (_, d) => uptoBulk d + 1
 end
def uptoSmall : (H : Type) → List (DataW H) → Bool := fun _ ds => decide (uptoBulkAll ds ≤ 1048576)
def OpenSpec.upto (s : _root_.Go.ChangeSpec) : _root_.Go.OpenSpec := { _root_.Go.OpenSpec.ofChange s with cond := some uptoSmall }

/-- 'bulkheadlaw2.SpanLaws', WHERE WHAT IT READS IS OF BULK AT MOST 1048576: true; the input reads as it did. -/
def spanLawsUptoRow : OpenClaim := { program := "ytchajbegjajlkaagreat", sum := "cc6ecf6b3ccc3327fd9dd529c5905b84604a3e08dc96068f7ef87d4cd5683967", func := "bulkhead/bulkheadlaw2.SpanLaws", spec := "spanLaws", unfollowed := true, recurses := true, apart := false, narrowed := true }
def SpanLawsUptoSaid : Prop := spanLawsUptoRow.holds Tryz.pinned (OpenSpec.upto spanLawsSpec)

/-- 'bulkheadlaw2.SpanNames', WHERE WHAT IT READS IS OF BULK AT MOST 1048576: true; the input reads as it did. -/
def spanNamesUptoRow : OpenClaim := { program := "ytchajbegjajlkaagreat", sum := "cc6ecf6b3ccc3327fd9dd529c5905b84604a3e08dc96068f7ef87d4cd5683967", func := "bulkhead/bulkheadlaw2.SpanNames", spec := "spanNames", unfollowed := true, recurses := true, apart := false, narrowed := true }
def SpanNamesUptoSaid : Prop := spanNamesUptoRow.holds Tryz.pinned (OpenSpec.upto spanNamesSpec)

/-- 'bulkheadlaw2.SpanPlays', WHERE WHAT IT READS IS OF BULK AT MOST 1048576: true; the input reads as it did. -/
def spanPlaysUptoRow : OpenClaim := { program := "ytchajbegjajlkaagreat", sum := "cc6ecf6b3ccc3327fd9dd529c5905b84604a3e08dc96068f7ef87d4cd5683967", func := "bulkhead/bulkheadlaw2.SpanPlays", spec := "spanPlays", unfollowed := true, recurses := true, apart := false, narrowed := true }
def SpanPlaysUptoSaid : Prop := spanPlaysUptoRow.holds Tryz.pinned (OpenSpec.upto spanPlaysSpec)

end Rows
end Go.Proofs.YtchajbegjajlkaaGreat
