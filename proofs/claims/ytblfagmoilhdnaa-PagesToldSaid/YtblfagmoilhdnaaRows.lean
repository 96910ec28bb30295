/-
  No cell of these rows narrows 'for every input' (looked for: loops, veiled, ifaces, maps, wideKeys, modest, calm, conditions, laid).
  DERIVED. THE GIVEN ROWS OF THIS SEAT. 6 by the template 'for every input the law returns true; each argument reads behind the call as it read before'; 0 by the template 'total and deterministic' (their statements: YtblfagmoilhdnaaTotals.lean).
  GIVEN WITH THE SEED: the statements are not yours to turn. If you find one false, say at which input.
  Laid BY PROGRAM, IN A SANDBOX (cutbox-rows.mjs): the forced cells as the released guide's own fill.sh prints them over the translation df823f87629b2097… (all of the seat's roots in one cut). By AI agents, Wed Nov 11 2026. No macro, syntax, notation, axiom, sorry.
-/
import Derived.Test.YtblfagmoilhdnaaChecked
import GoSem.Claim
import GoSem.ClaimJoined
import GoSem.ClaimMapViews
import Derived.JoinedTies
import Derived.KernelRfl
namespace Go.Proofs.Ytblfagmoilhdnaa
/- THE CELL 'sum', in the pinned program and in every row, IS THE sha256 OF THE DUMP (.gsa) THAT YtblfagmoilhdnaaProg.lean LOADS. Nothing in Lean hashes anything: it is a label: what it is worth is what the hold of that sum in a sandbox is worth. -/
noncomputable def Try.pinned : Pinned := { name := "ytblfagmoilhdnaa", sum := "df823f87629b209723d913d3b5aed561c4a3694912a3d7cead58b2dc7697ebe4", checked := Try.checked }
namespace Rows
def none {H : Type} : Left H := { results := [], args := [] }

/-- 'bulkheadlaw12.PagesBytes': WHATEVER THE INPUT: true; the input reads as it did. -/
def pagesBytesSpec : ChangeSpec := { name := "pagesBytes", fn := fun _ => fun
  | [d1, d2] => { results := [.lit (.bool true)], args := [d1, d2] }
  | _ => none }
def pagesBytesRow : OpenClaim := { program := "ytblfagmoilhdnaa", sum := "df823f87629b209723d913d3b5aed561c4a3694912a3d7cead58b2dc7697ebe4", func := "bulkhead/bulkheadlaw12.PagesBytes", spec := "pagesBytes", unfollowed := true, recurses := true, apart := false }
def PagesBytesSaid : Prop := pagesBytesRow.holds Try.pinned (OpenSpec.ofChange pagesBytesSpec)

/-- ITS FALSE NEIGHBOUR: 'it returns false'. Refute it at one input. -/
def pagesBytesWrong : ChangeSpec := { name := "pagesBytes", fn := fun _ => fun
  | [d1, d2] => { results := [.lit (.bool false)], args := [d1, d2] }
  | _ => none }
def PagesBytesWrongFalsely : Prop := pagesBytesRow.holds Try.pinned (OpenSpec.ofChange pagesBytesWrong)

/-- 'bulkheadlaw12.PagesNames': WHATEVER THE INPUT: true; the input reads as it did. -/
def pagesNamesSpec : ChangeSpec := { name := "pagesNames", fn := fun _ => fun
  | [] => { results := [.lit (.bool true)], args := [] }
  | _ => none }
def pagesNamesRow : OpenClaim := { program := "ytblfagmoilhdnaa", sum := "df823f87629b209723d913d3b5aed561c4a3694912a3d7cead58b2dc7697ebe4", func := "bulkhead/bulkheadlaw12.PagesNames", spec := "pagesNames", apart := false }
def PagesNamesSaid : Prop := pagesNamesRow.holds Try.pinned (OpenSpec.ofChange pagesNamesSpec)

/-- ITS FALSE NEIGHBOUR: 'it returns false'. Refute it at one input. -/
def pagesNamesWrong : ChangeSpec := { name := "pagesNames", fn := fun _ => fun
  | [] => { results := [.lit (.bool false)], args := [] }
  | _ => none }
def PagesNamesWrongFalsely : Prop := pagesNamesRow.holds Try.pinned (OpenSpec.ofChange pagesNamesWrong)

/-- 'bulkheadlaw12.PagesBuilds': WHATEVER THE INPUT: true; the input reads as it did. -/
def pagesBuildsSpec : ChangeSpec := { name := "pagesBuilds", fn := fun _ => fun
  | [d1, d2, d3] => { results := [.lit (.bool true)], args := [d1, d2, d3] }
  | _ => none }
def pagesBuildsRow : OpenClaim := { program := "ytblfagmoilhdnaa", sum := "df823f87629b209723d913d3b5aed561c4a3694912a3d7cead58b2dc7697ebe4", func := "bulkhead/bulkheadlaw12.PagesBuilds", spec := "pagesBuilds", unfollowed := true, recurses := true, apart := false }
def PagesBuildsSaid : Prop := pagesBuildsRow.holds Try.pinned (OpenSpec.ofChange pagesBuildsSpec)

/-- ITS FALSE NEIGHBOUR: 'it returns false'. Refute it at one input. -/
def pagesBuildsWrong : ChangeSpec := { name := "pagesBuilds", fn := fun _ => fun
  | [d1, d2, d3] => { results := [.lit (.bool false)], args := [d1, d2, d3] }
  | _ => none }
def PagesBuildsWrongFalsely : Prop := pagesBuildsRow.holds Try.pinned (OpenSpec.ofChange pagesBuildsWrong)

/-- 'bulkheadlaw12.PagesAlike': WHATEVER THE INPUT: true; the input reads as it did. -/
def pagesAlikeSpec : ChangeSpec := { name := "pagesAlike", fn := fun _ => fun
  | [d1, d2] => { results := [.lit (.bool true)], args := [d1, d2] }
  | _ => none }
def pagesAlikeRow : OpenClaim := { program := "ytblfagmoilhdnaa", sum := "df823f87629b209723d913d3b5aed561c4a3694912a3d7cead58b2dc7697ebe4", func := "bulkhead/bulkheadlaw12.PagesAlike", spec := "pagesAlike", apart := false }
def PagesAlikeSaid : Prop := pagesAlikeRow.holds Try.pinned (OpenSpec.ofChange pagesAlikeSpec)

/-- ITS FALSE NEIGHBOUR: 'it returns false'. Refute it at one input. -/
def pagesAlikeWrong : ChangeSpec := { name := "pagesAlike", fn := fun _ => fun
  | [d1, d2] => { results := [.lit (.bool false)], args := [d1, d2] }
  | _ => none }
def PagesAlikeWrongFalsely : Prop := pagesAlikeRow.holds Try.pinned (OpenSpec.ofChange pagesAlikeWrong)

/-- 'bulkheadlaw12.PagesWalked': WHATEVER THE INPUT: true; the input reads as it did. -/
def pagesWalkedSpec : ChangeSpec := { name := "pagesWalked", fn := fun _ => fun
  | [d1, d2, d3] => { results := [.lit (.bool true)], args := [d1, d2, d3] }
  | _ => none }
def pagesWalkedRow : OpenClaim := { program := "ytblfagmoilhdnaa", sum := "df823f87629b209723d913d3b5aed561c4a3694912a3d7cead58b2dc7697ebe4", func := "bulkhead/bulkheadlaw12.PagesWalked", spec := "pagesWalked", unfollowed := true, recurses := true, apart := false }
def PagesWalkedSaid : Prop := pagesWalkedRow.holds Try.pinned (OpenSpec.ofChange pagesWalkedSpec)

/-- ITS FALSE NEIGHBOUR: 'it returns false'. Refute it at one input. -/
def pagesWalkedWrong : ChangeSpec := { name := "pagesWalked", fn := fun _ => fun
  | [d1, d2, d3] => { results := [.lit (.bool false)], args := [d1, d2, d3] }
  | _ => none }
def PagesWalkedWrongFalsely : Prop := pagesWalkedRow.holds Try.pinned (OpenSpec.ofChange pagesWalkedWrong)

/-- 'bulkheadlaw12.PagesTold': WHATEVER THE INPUT: true; the input reads as it did. -/
def pagesToldSpec : ChangeSpec := { name := "pagesTold", fn := fun _ => fun
  | [d1, d2] => { results := [.lit (.bool true)], args := [d1, d2] }
  | _ => none }
def pagesToldRow : OpenClaim := { program := "ytblfagmoilhdnaa", sum := "df823f87629b209723d913d3b5aed561c4a3694912a3d7cead58b2dc7697ebe4", func := "bulkhead/bulkheadlaw12.PagesTold", spec := "pagesTold", unfollowed := true, recurses := true, apart := false }
def PagesToldSaid : Prop := pagesToldRow.holds Try.pinned (OpenSpec.ofChange pagesToldSpec)

/-- ITS FALSE NEIGHBOUR: 'it returns false'. Refute it at one input. -/
def pagesToldWrong : ChangeSpec := { name := "pagesTold", fn := fun _ => fun
  | [d1, d2] => { results := [.lit (.bool false)], args := [d1, d2] }
  | _ => none }
def PagesToldWrongFalsely : Prop := pagesToldRow.holds Try.pinned (OpenSpec.ofChange pagesToldWrong)

/- THE SECOND FORM. 'bulk': how many values and letters a reading holds, each counted each time it is reached (what is shared counts as often as it is met; a slice's spare places count too). A statement '..UptoSaid' is the law's where the arguments, and the package variables that the reading takes, are together of bulk at most 1048576: NARROWER than '..Said'. Prove '..Said' where nothing that the law and all that it calls make is longer than what came in: it says more and counts as full. Else prove '..UptoSaid'. A law counts once. -/
mutual
def uptoBulk {H : Type} : DataW H → Nat
  | .lit (.string bytes) => bytes.length + 1
  | .lit _ => 1
  | .nil => 1
  | .ptr d => uptoBulk d + 1
  | .slice elems spare => uptoBulkAll elems + uptoBulkAll spare + 1
  | .agg parts => uptoBulkAll parts + 1
  | .iface _ d => uptoBulk d + 1
  | .map entries => uptoBulkEntries entries + 1
  | .held _ => 1
def uptoBulkAll {H : Type} : List (DataW H) → Nat
  | [] => 0
  | d :: r => uptoBulk d + uptoBulkAll r
def uptoBulkEntries {H : Type} : List (Lit × DataW H) → Nat
  | [] => 0
  | x :: r => uptoBulkEntry x + uptoBulkEntries r
def uptoBulkEntry {H : Type} : Lit × DataW H → Nat
  | (.string bytes, d) => bytes.length + uptoBulk d + 1
  | (_, d) => uptoBulk d + 1
 end
def uptoSmall : (H : Type) → List (DataW H) → Bool := fun _ ds => decide (uptoBulkAll ds ≤ 1048576)
def OpenSpec.upto (s : _root_.Go.ChangeSpec) : _root_.Go.OpenSpec := { _root_.Go.OpenSpec.ofChange s with cond := some uptoSmall }

/-- 'bulkheadlaw12.PagesBytes', WHERE WHAT IT READS IS OF BULK AT MOST 1048576: true; the input reads as it did. -/
def pagesBytesUptoRow : OpenClaim := { program := "ytblfagmoilhdnaa", sum := "df823f87629b209723d913d3b5aed561c4a3694912a3d7cead58b2dc7697ebe4", func := "bulkhead/bulkheadlaw12.PagesBytes", spec := "pagesBytes", unfollowed := true, recurses := true, apart := false, narrowed := true }
def PagesBytesUptoSaid : Prop := pagesBytesUptoRow.holds Try.pinned (OpenSpec.upto pagesBytesSpec)

/-- 'bulkheadlaw12.PagesNames', WHERE WHAT IT READS IS OF BULK AT MOST 1048576: true; the input reads as it did. -/
def pagesNamesUptoRow : OpenClaim := { program := "ytblfagmoilhdnaa", sum := "df823f87629b209723d913d3b5aed561c4a3694912a3d7cead58b2dc7697ebe4", func := "bulkhead/bulkheadlaw12.PagesNames", spec := "pagesNames", apart := false, narrowed := true }
def PagesNamesUptoSaid : Prop := pagesNamesUptoRow.holds Try.pinned (OpenSpec.upto pagesNamesSpec)

/-- 'bulkheadlaw12.PagesBuilds', WHERE WHAT IT READS IS OF BULK AT MOST 1048576: true; the input reads as it did. -/
def pagesBuildsUptoRow : OpenClaim := { program := "ytblfagmoilhdnaa", sum := "df823f87629b209723d913d3b5aed561c4a3694912a3d7cead58b2dc7697ebe4", func := "bulkhead/bulkheadlaw12.PagesBuilds", spec := "pagesBuilds", unfollowed := true, recurses := true, apart := false, narrowed := true }
def PagesBuildsUptoSaid : Prop := pagesBuildsUptoRow.holds Try.pinned (OpenSpec.upto pagesBuildsSpec)

/-- 'bulkheadlaw12.PagesAlike', WHERE WHAT IT READS IS OF BULK AT MOST 1048576: true; the input reads as it did. -/
def pagesAlikeUptoRow : OpenClaim := { program := "ytblfagmoilhdnaa", sum := "df823f87629b209723d913d3b5aed561c4a3694912a3d7cead58b2dc7697ebe4", func := "bulkhead/bulkheadlaw12.PagesAlike", spec := "pagesAlike", apart := false, narrowed := true }
def PagesAlikeUptoSaid : Prop := pagesAlikeUptoRow.holds Try.pinned (OpenSpec.upto pagesAlikeSpec)

/-- 'bulkheadlaw12.PagesWalked', WHERE WHAT IT READS IS OF BULK AT MOST 1048576: true; the input reads as it did. -/
def pagesWalkedUptoRow : OpenClaim := { program := "ytblfagmoilhdnaa", sum := "df823f87629b209723d913d3b5aed561c4a3694912a3d7cead58b2dc7697ebe4", func := "bulkhead/bulkheadlaw12.PagesWalked", spec := "pagesWalked", unfollowed := true, recurses := true, apart := false, narrowed := true }
def PagesWalkedUptoSaid : Prop := pagesWalkedUptoRow.holds Try.pinned (OpenSpec.upto pagesWalkedSpec)

/-- 'bulkheadlaw12.PagesTold', WHERE WHAT IT READS IS OF BULK AT MOST 1048576: true; the input reads as it did. -/
def pagesToldUptoRow : OpenClaim := { program := "ytblfagmoilhdnaa", sum := "df823f87629b209723d913d3b5aed561c4a3694912a3d7cead58b2dc7697ebe4", func := "bulkhead/bulkheadlaw12.PagesTold", spec := "pagesTold", unfollowed := true, recurses := true, apart := false, narrowed := true }
def PagesToldUptoSaid : Prop := pagesToldUptoRow.holds Try.pinned (OpenSpec.upto pagesToldSpec)

end Rows
end Go.Proofs.Ytblfagmoilhdnaa
