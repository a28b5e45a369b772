/- A stack's List, walked. -/
import Derived.Test.YtaecapjicphdkaaStackD
namespace Go.Proofs.Ytaecapjicphdkaa
set_option linter.unusedVariables false
set_option linter.unusedSimpArgs false
open Go Go.RowKit
set_option maxRecDepth 100000
attribute [local go_sem ↓] Go.wp_at_zero Go.wp_at_succ
set_option maxHeartbeats 1000000

def lenOf : Value → Nat
  | .slice _ n _ => n
  | _ => 0
/-- The items from one on, at most so many. -/
def listFrom (lk n : Nat) (l : List Int) : Nat → Int → List Int
  | 0, _ => []
  | f + 1, i => if i < 0 then [] else i :: listFrom lk n l f (belowI n (l.getD ((lk : Int) + i).toNat 0))
def stList (hd lk n : Nat) (l : List Int) : List Int := listFrom lk n l n (topI n (l.getD hd 0))
section
variable {w : World} {S m b N hd lk n B : Nat} {l : List Int} {cc : Int} {x : Acc} {g : Nat} {v : Value} {H K : Int}
end
end Go.Proofs.Ytaecapjicphdkaa
