/- What the document's answer on bits computes, and Number: each function walked once. -/
import Derived.Test.YtaecapjicphdkaaBitsW
import Derived.Test.YtaecapjicphdkaaNum
namespace Go.Proofs.Ytaecapjicphdkaa
set_option linter.unusedVariables false
set_option linter.unusedSimpArgs false
open Go Go.RowKit
set_option maxRecDepth 100000

end Go.Proofs.Ytaecapjicphdkaa
