/- What a cell is, as package lay tells it: walked once. -/
import Derived.Test.YtkpagkopfdblgaaLayC
import Derived.Test.YtkpagkopfdblgaaHeap
namespace Go.Proofs.Ytkpagkopfdblgaa
set_option linter.unusedVariables false
set_option linter.unusedSimpArgs false
open Go Go.RowKit
set_option maxRecDepth 100000

end Go.Proofs.Ytkpagkopfdblgaa