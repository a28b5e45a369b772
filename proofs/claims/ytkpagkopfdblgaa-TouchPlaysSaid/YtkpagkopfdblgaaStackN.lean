/- stack.New, the constructors of Push and Pop, walked. -/
import Derived.Test.YtkpagkopfdblgaaStackQ2
import Derived.Test.YtkpagkopfdblgaaStackQ3
import Derived.Test.YtkpagkopfdblgaaStackP2
namespace Go.Proofs.Ytkpagkopfdblgaa
set_option linter.unusedVariables false
set_option linter.unusedSimpArgs false
open Go Go.RowKit
set_option maxRecDepth 100000
attribute [local go_sem ↓] Go.wp_at_zero Go.wp_at_succ
set_option maxHeartbeats 1000000

def inB (a : Int) (N : Nat) : Bool := decide (0 ≤ a) && decide (a < N)
theorem inB_true {a : Int} {N : Nat} : inB a N = true ↔ 0 ≤ a ∧ a < N := by simp [inB]
theorem inB_yes {a : Int} {N : Nat} (h0 : 0 ≤ a) (h1 : a < N) : inB a N = true := inB_true.2 ⟨h0, h1⟩
theorem inB_no {a : Int} {N : Nat} (h : a < 0 ∨ N ≤ a) : inB a N = false := by
  unfold inB
  rcases h with h | h
  · rw [decide_eq_false (show ¬ 0 ≤ a by omega)]; rfl
  · rw [decide_eq_false (show ¬ a < (N : Int) by omega)]; simp
section
variable {w : World} {m b N : Nat} {l : List Int} {cc : Int} {x : Acc}
end
end Go.Proofs.Ytkpagkopfdblgaa
