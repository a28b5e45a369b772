/- Fill, List, a Push that is refused, walked. -/
import Derived.Test.YtkpagkopfdblgaaStackC
namespace Go.Proofs.Ytkpagkopfdblgaa
set_option linter.unusedVariables false
set_option linter.unusedSimpArgs false
open Go Go.RowKit
set_option maxRecDepth 100000
attribute [local go_sem ↓] Go.wp_at_zero Go.wp_at_succ
set_option maxHeartbeats 1000000

section
variable {w : World} {S m b N hd lk n B : Nat} {l : List Int} {cc : Int} {x : Acc} {g : Nat} {v : Value} {H K : Int}
/-- What Fill lays. -/
def fillTo (l : List Int) (lk : Nat) : Nat → List Int
  | 0 => l
  | k + 1 => (fillTo l lk k).set (lk + k) ((k : Int) + 2)
theorem fillTo_length (l : List Int) (lk : Nat) : ∀ k, (fillTo l lk k).length = l.length
  | 0 => rfl
  | k + 1 => by simp [fillTo, fillTo_length l lk k]
def stFill (hd lk n : Nat) (l : List Int) : List Int := ((fillTo l lk n).set (lk + n - 1) 0).set hd 1
theorem headI_00 : headI 0 0 = 1 := by decide
end
end Go.Proofs.Ytkpagkopfdblgaa
