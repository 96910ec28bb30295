/- The walk of slices.Clone over bytes: nil for nil, else the same bytes in new memory. -/
import Derived.Test.YtomjmapidjnpbaaGreatPut
set_option linter.unusedVariables false
set_option linter.unusedSimpArgs false
namespace Go.Proofs.YtomjmapidjnpbaaGreat
open Go.RowKit

end Go.Proofs.YtomjmapidjnpbaaGreat
