/- The machine Push: its last accesses, walked. -/
import Derived.Test.YtaecapjicphdkaaStackP
namespace Go.Proofs.Ytaecapjicphdkaa
set_option linter.unusedVariables false
set_option linter.unusedSimpArgs false
open Go Go.RowKit
set_option maxRecDepth 100000
attribute [local go_sem ↓] Go.wp_at_zero Go.wp_at_succ
set_option maxHeartbeats 1000000

section
variable {w : World} {S m b N : Nat} {hd : Nat} {lk n : Int} {l : List Int} {cc : Int} {x : Acc} {g lb k cap i q : Nat} {cur : Array Value} {c was a1 a2 o : Int}
end
end Go.Proofs.Ytaecapjicphdkaa
