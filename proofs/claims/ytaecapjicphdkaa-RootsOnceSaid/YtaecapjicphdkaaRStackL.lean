/- The document's stack: List, walked. -/
import Derived.Test.YtaecapjicphdkaaRStackW
namespace Go.Proofs.Ytaecapjicphdkaa
set_option linter.unusedVariables false
set_option linter.unusedSimpArgs false
open Go Go.RowKit
set_option maxRecDepth 100000
attribute [local go_sem ↓] Go.wp_at_zero Go.wp_at_succ
set_option maxHeartbeats 1000000

section
variable {w : World} {S g b N hd lk n : Nat} {l : List Int} {cc : Int}
end
end Go.Proofs.Ytaecapjicphdkaa
