/-
  No cell of these rows narrows 'for every input' (looked for: loops, veiled, ifaces, maps, wideKeys, modest, calm, conditions, laid).
  DERIVED. THE GIVEN ROWS OF THIS SEAT. 5 by the template 'for every input the law returns true; each argument reads behind the call as it read before'; 0 by the template 'total and deterministic' (their statements: YtmhkmemaneopeaaTotals.lean).
  GIVEN WITH THE SEED: the statements are not yours to turn. If you find one false, say at which input.
  Laid BY PROGRAM, IN A SANDBOX (cutbox-rows.mjs): the forced cells as the released guide's own fill.sh prints them over the translation 2419f9da2055c38b… (all of the seat's roots in one cut). By AI agents, Wed Nov 11 2026. No macro, syntax, notation, axiom, sorry.
-/
import Derived.Test.YtmhkmemaneopeaaChecked
import GoSem.Claim
import GoSem.ClaimJoined
import GoSem.ClaimMapViews
import Derived.JoinedTies
import Derived.KernelRfl
namespace Go.Proofs.Ytmhkmemaneopeaa
/- THE CELL 'sum', in the pinned program and in every row, IS THE sha256 OF THE DUMP (.gsa) THAT YtmhkmemaneopeaaProg.lean LOADS. Nothing in Lean hashes anything: it is a label: what it is worth is what the hold of that sum in a sandbox is worth. -/
noncomputable def Try.pinned : Pinned := { name := "ytmhkmemaneopeaa", sum := "2419f9da2055c38b3069d32e4035198f81b36fa17aa47380f3b38be585fe1a82", checked := Try.checked }
namespace Rows
def none {H : Type} : Left H := { results := [], args := [] }

/-- 'bulkheadlaw3.BusMade': WHATEVER THE INPUT: true; the input reads as it did. -/
def busMadeSpec : ChangeSpec := { name := "busMade", fn := fun _ => fun
  | [d1, d2] => { results := [.lit (.bool true)], args := [d1, d2] }
  | _ => none }
def busMadeRow : OpenClaim := { program := "ytmhkmemaneopeaa", sum := "2419f9da2055c38b3069d32e4035198f81b36fa17aa47380f3b38be585fe1a82", func := "bulkhead/bulkheadlaw3.BusMade", spec := "busMade", unfollowed := true, recurses := true, apart := false }
def BusMadeSaid : Prop := busMadeRow.holds Try.pinned (OpenSpec.ofChange busMadeSpec)

/-- ITS FALSE NEIGHBOUR: 'it returns false'. Refute it at one input. -/
def busMadeWrong : ChangeSpec := { name := "busMade", fn := fun _ => fun
  | [d1, d2] => { results := [.lit (.bool false)], args := [d1, d2] }
  | _ => none }
def BusMadeWrongFalsely : Prop := busMadeRow.holds Try.pinned (OpenSpec.ofChange busMadeWrong)

/-- 'bulkheadlaw3.BusFills': WHATEVER THE INPUT: true; the input reads as it did. -/
def busFillsSpec : ChangeSpec := { name := "busFills", fn := fun _ => fun
  | [d1, d2, d3, d4, d5] => { results := [.lit (.bool true)], args := [d1, d2, d3, d4, d5] }
  | _ => none }
def busFillsRow : OpenClaim := { program := "ytmhkmemaneopeaa", sum := "2419f9da2055c38b3069d32e4035198f81b36fa17aa47380f3b38be585fe1a82", func := "bulkhead/bulkheadlaw3.BusFills", spec := "busFills", unfollowed := true, recurses := true, apart := false }
def BusFillsSaid : Prop := busFillsRow.holds Try.pinned (OpenSpec.ofChange busFillsSpec)

/-- ITS FALSE NEIGHBOUR: 'it returns false'. Refute it at one input. -/
def busFillsWrong : ChangeSpec := { name := "busFills", fn := fun _ => fun
  | [d1, d2, d3, d4, d5] => { results := [.lit (.bool false)], args := [d1, d2, d3, d4, d5] }
  | _ => none }
def BusFillsWrongFalsely : Prop := busFillsRow.holds Try.pinned (OpenSpec.ofChange busFillsWrong)

/-- 'bulkheadlaw3.BusStores': WHATEVER THE INPUT: true; the input reads as it did. -/
def busStoresSpec : ChangeSpec := { name := "busStores", fn := fun _ => fun
  | [d1, d2, d3, d4] => { results := [.lit (.bool true)], args := [d1, d2, d3, d4] }
  | _ => none }
def busStoresRow : OpenClaim := { program := "ytmhkmemaneopeaa", sum := "2419f9da2055c38b3069d32e4035198f81b36fa17aa47380f3b38be585fe1a82", func := "bulkhead/bulkheadlaw3.BusStores", spec := "busStores", unfollowed := true, recurses := true, apart := false }
def BusStoresSaid : Prop := busStoresRow.holds Try.pinned (OpenSpec.ofChange busStoresSpec)

/-- ITS FALSE NEIGHBOUR: 'it returns false'. Refute it at one input. -/
def busStoresWrong : ChangeSpec := { name := "busStores", fn := fun _ => fun
  | [d1, d2, d3, d4] => { results := [.lit (.bool false)], args := [d1, d2, d3, d4] }
  | _ => none }
def BusStoresWrongFalsely : Prop := busStoresRow.holds Try.pinned (OpenSpec.ofChange busStoresWrong)

/-- 'bulkheadlaw3.BusNames': WHATEVER THE INPUT: true; the input reads as it did. -/
def busNamesSpec : ChangeSpec := { name := "busNames", fn := fun _ => fun
  | [] => { results := [.lit (.bool true)], args := [] }
  | _ => none }
def busNamesRow : OpenClaim := { program := "ytmhkmemaneopeaa", sum := "2419f9da2055c38b3069d32e4035198f81b36fa17aa47380f3b38be585fe1a82", func := "bulkhead/bulkheadlaw3.BusNames", spec := "busNames", unfollowed := true, recurses := true, apart := false }
def BusNamesSaid : Prop := busNamesRow.holds Try.pinned (OpenSpec.ofChange busNamesSpec)

/-- ITS FALSE NEIGHBOUR: 'it returns false'. Refute it at one input. -/
def busNamesWrong : ChangeSpec := { name := "busNames", fn := fun _ => fun
  | [] => { results := [.lit (.bool false)], args := [] }
  | _ => none }
def BusNamesWrongFalsely : Prop := busNamesRow.holds Try.pinned (OpenSpec.ofChange busNamesWrong)

/-- 'bulkheadlaw3.BusClones': WHATEVER THE INPUT: true; the input reads as it did. -/
def busClonesSpec : ChangeSpec := { name := "busClones", fn := fun _ => fun
  | [d1, d2, d3, d4] => { results := [.lit (.bool true)], args := [d1, d2, d3, d4] }
  | _ => none }
def busClonesRow : OpenClaim := { program := "ytmhkmemaneopeaa", sum := "2419f9da2055c38b3069d32e4035198f81b36fa17aa47380f3b38be585fe1a82", func := "bulkhead/bulkheadlaw3.BusClones", spec := "busClones", unfollowed := true, recurses := true, apart := false }
def BusClonesSaid : Prop := busClonesRow.holds Try.pinned (OpenSpec.ofChange busClonesSpec)

/-- ITS FALSE NEIGHBOUR: 'it returns false'. Refute it at one input. -/
def busClonesWrong : ChangeSpec := { name := "busClones", fn := fun _ => fun
  | [d1, d2, d3, d4] => { results := [.lit (.bool false)], args := [d1, d2, d3, d4] }
  | _ => none }
def BusClonesWrongFalsely : Prop := busClonesRow.holds Try.pinned (OpenSpec.ofChange busClonesWrong)

/- THE SECOND FORM. 'bulk': how many values and letters a reading holds, each counted each time it is reached (what is shared counts as often as it is met; a slice's spare places count too). A statement '..UptoSaid' is the law's where the arguments, and the package variables that the reading takes, are together of bulk at most 1048576: NARROWER than '..Said'. Prove '..Said' where nothing that the law and all that it calls make is longer than what came in: it says more and counts as full. Else prove '..UptoSaid'. A law counts once. -/
mutual
def uptoBulk {H : Type} : DataW H → Nat
  | .lit (.string bytes) => bytes.length + 1
  | .lit _ => 1
  | .nil => 1
  | .ptr d => uptoBulk d + 1
  | .slice elems spare => uptoBulkAll elems + uptoBulkAll spare + 1
  | .agg parts => uptoBulkAll parts + 1
  | .iface _ d => uptoBulk d + 1
  | .map entries => uptoBulkEntries entries + 1
  | .held _ => 1
def uptoBulkAll {H : Type} : List (DataW H) → Nat
  | [] => 0
  | d :: r => uptoBulk d + uptoBulkAll r
def uptoBulkEntries {H : Type} : List (Lit × DataW H) → Nat
  | [] => 0
  | x :: r => uptoBulkEntry x + uptoBulkEntries r
def uptoBulkEntry {H : Type} : Lit × DataW H → Nat
  | (.string bytes, d) => bytes.length + uptoBulk d + 1
  | (_, d) => uptoBulk d + 1
 end
def uptoSmall : (H : Type) → List (DataW H) → Bool := fun _ ds => decide (uptoBulkAll ds ≤ 1048576)
def OpenSpec.upto (s : _root_.Go.ChangeSpec) : _root_.Go.OpenSpec := { _root_.Go.OpenSpec.ofChange s with cond := some uptoSmall }

/-- 'bulkheadlaw3.BusMade', WHERE WHAT IT READS IS OF BULK AT MOST 1048576: true; the input reads as it did. -/
def busMadeUptoRow : OpenClaim := { program := "ytmhkmemaneopeaa", sum := "2419f9da2055c38b3069d32e4035198f81b36fa17aa47380f3b38be585fe1a82", func := "bulkhead/bulkheadlaw3.BusMade", spec := "busMade", unfollowed := true, recurses := true, apart := false, narrowed := true }
def BusMadeUptoSaid : Prop := busMadeUptoRow.holds Try.pinned (OpenSpec.upto busMadeSpec)

/-- 'bulkheadlaw3.BusFills', WHERE WHAT IT READS IS OF BULK AT MOST 1048576: true; the input reads as it did. -/
def busFillsUptoRow : OpenClaim := { program := "ytmhkmemaneopeaa", sum := "2419f9da2055c38b3069d32e4035198f81b36fa17aa47380f3b38be585fe1a82", func := "bulkhead/bulkheadlaw3.BusFills", spec := "busFills", unfollowed := true, recurses := true, apart := false, narrowed := true }
def BusFillsUptoSaid : Prop := busFillsUptoRow.holds Try.pinned (OpenSpec.upto busFillsSpec)

/-- 'bulkheadlaw3.BusStores', WHERE WHAT IT READS IS OF BULK AT MOST 1048576: true; the input reads as it did. -/
def busStoresUptoRow : OpenClaim := { program := "ytmhkmemaneopeaa", sum := "2419f9da2055c38b3069d32e4035198f81b36fa17aa47380f3b38be585fe1a82", func := "bulkhead/bulkheadlaw3.BusStores", spec := "busStores", unfollowed := true, recurses := true, apart := false, narrowed := true }
def BusStoresUptoSaid : Prop := busStoresUptoRow.holds Try.pinned (OpenSpec.upto busStoresSpec)

/-- 'bulkheadlaw3.BusNames', WHERE WHAT IT READS IS OF BULK AT MOST 1048576: true; the input reads as it did. -/
def busNamesUptoRow : OpenClaim := { program := "ytmhkmemaneopeaa", sum := "2419f9da2055c38b3069d32e4035198f81b36fa17aa47380f3b38be585fe1a82", func := "bulkhead/bulkheadlaw3.BusNames", spec := "busNames", unfollowed := true, recurses := true, apart := false, narrowed := true }
def BusNamesUptoSaid : Prop := busNamesUptoRow.holds Try.pinned (OpenSpec.upto busNamesSpec)

/-- 'bulkheadlaw3.BusClones', WHERE WHAT IT READS IS OF BULK AT MOST 1048576: true; the input reads as it did. -/
def busClonesUptoRow : OpenClaim := { program := "ytmhkmemaneopeaa", sum := "2419f9da2055c38b3069d32e4035198f81b36fa17aa47380f3b38be585fe1a82", func := "bulkhead/bulkheadlaw3.BusClones", spec := "busClones", unfollowed := true, recurses := true, apart := false, narrowed := true }
def BusClonesUptoSaid : Prop := busClonesUptoRow.holds Try.pinned (OpenSpec.upto busClonesSpec)

end Rows
end Go.Proofs.Ytmhkmemaneopeaa
