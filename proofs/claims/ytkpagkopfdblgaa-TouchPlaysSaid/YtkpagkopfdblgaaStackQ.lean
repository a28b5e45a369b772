/- The machine Pop, walked. -/
import Derived.Test.YtkpagkopfdblgaaStackW
import Derived.OwnWalk
namespace Go.Proofs.Ytkpagkopfdblgaa
set_option linter.unusedVariables false
set_option linter.unusedSimpArgs false
open Go Go.RowKit
set_option maxRecDepth 100000
attribute [local go_sem ↓] Go.wp_at_zero Go.wp_at_succ
set_option maxHeartbeats 1000000

/-- A Pop's cells. -/
abbrev popOf (nx : Value) (c : Int) (S : Nat) (most under was : Int) (v : Value) : Array Value := mach nx c [.pointer (some ⟨S, 0, none⟩), .int .i64 most, .int .i64 under, .int .u64 was, v]
section
variable {w : World} {S m b N : Nat} {hd : Nat} {lk n : Int} {l : List Int} {cc : Int} {x : Acc} {g lb k cap i q B : Nat} {cur : Array Value} {c was a1 a2 o most under t : Int}
end
end Go.Proofs.Ytkpagkopfdblgaa
