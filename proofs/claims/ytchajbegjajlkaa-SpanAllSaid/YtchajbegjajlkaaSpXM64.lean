/- The walk of a set's make, with the closure of Meet. -/
import Derived.Test.YtchajbegjajlkaaSpX64
set_option linter.unusedVariables false
set_option linter.unusedSimpArgs false
namespace Go.Proofs.Ytchajbegjajlkaa
open Go.RowKit
namespace S64
end S64
end Go.Proofs.Ytchajbegjajlkaa
