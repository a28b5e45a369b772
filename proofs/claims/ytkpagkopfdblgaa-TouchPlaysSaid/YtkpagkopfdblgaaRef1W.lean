/- What the document's answer on bits computes, and Number: each function walked once. -/
import Derived.Test.YtkpagkopfdblgaaBitsW
import Derived.Test.YtkpagkopfdblgaaNum
namespace Go.Proofs.Ytkpagkopfdblgaa
set_option linter.unusedVariables false
set_option linter.unusedSimpArgs false
open Go Go.RowKit
set_option maxRecDepth 100000

end Go.Proofs.Ytkpagkopfdblgaa
