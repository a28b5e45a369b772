/- What the document's answer on bits computes, and Number: each function walked once. -/
import Derived.Test.YtaecapjicphdkaaGreatBitsW
import Derived.Test.YtaecapjicphdkaaGreatNum
namespace Go.Proofs.YtaecapjicphdkaaGreat
set_option linter.unusedVariables false
set_option linter.unusedSimpArgs false
open Go Go.RowKit
set_option maxRecDepth 100000

end Go.Proofs.YtaecapjicphdkaaGreat
