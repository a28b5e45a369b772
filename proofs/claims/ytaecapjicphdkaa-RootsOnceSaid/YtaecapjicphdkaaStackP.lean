/- The machines Push and Pop, walked. -/
import Derived.Test.YtaecapjicphdkaaStackW
namespace Go.Proofs.Ytaecapjicphdkaa
set_option linter.unusedVariables false
set_option linter.unusedSimpArgs false
open Go Go.RowKit
set_option maxRecDepth 100000
attribute [local go_sem ↓] Go.wp_at_zero Go.wp_at_succ
set_option maxHeartbeats 1000000

/-- A Push's cells. -/
abbrev pushOf (nx : Value) (c : Int) (S : Nat) (v : Value) (i was : Int) : Array Value := mach nx c [.pointer (some ⟨S, 0, none⟩), v, .int .i64 i, .int .u64 was]
section
variable {w : World} {S m b N : Nat} {hd : Nat} {lk n : Int} {l : List Int} {cc : Int} {x : Acc} {g lb k cap i q : Nat} {cur : Array Value} {c was a1 a2 o : Int}
end
end Go.Proofs.Ytaecapjicphdkaa
