/- The walks of NewWriter and of the writer's Bytes, Seal, Len, Err, All. -/
import Derived.Test.YtomjmapidjnpbaaGreatWriter
set_option linter.unusedVariables false
set_option linter.unusedSimpArgs false
namespace Go.Proofs.YtomjmapidjnpbaaGreat
open Go.RowKit

def IsB' (w : World) (A : Option Addr) (n c : Nat) (bs : List Nat) : Prop := IsB w w.heap.size A n bs ∧ (A = none → c = 0)
end Go.Proofs.YtomjmapidjnpbaaGreat
