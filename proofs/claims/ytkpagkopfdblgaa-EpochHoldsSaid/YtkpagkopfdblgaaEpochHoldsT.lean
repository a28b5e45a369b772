/- EpochHolds, lists of any length. -/
import Derived.Test.YtkpagkopfdblgaaEpochHoldsL
namespace Go.Proofs.Ytkpagkopfdblgaa
set_option linter.unusedVariables false
set_option linter.unusedSimpArgs false
open Go Go.RowKit
set_option maxRecDepth 100000
set_option maxHeartbeats 4000000
theorem epochHolds_c (st : Int) (v : Value) (zs : List Int) (w : World) (hr : Reads .i64 w v zs) :
    Calls Try.prog 12 #[.int .i64 st, v] w fun e w' => e = .returned (.bool true) ∧ Keeps w w' := by
  by_cases hl : zs.length ≤ 120
  · exact epochHolds_core st v zs w hr hl
  · obtain ⟨sa, cap, rfl, hrr⟩ := hr
    clear hrr
    have hl' : (120 : Int) < zs.length := by omega
    go_enter Try.func12, Try.ntmps12
    go_wp2_with (go_at_call 46; refine (epochFirst_c _).mono ?_; rintro e w' ⟨rfl, hk0⟩)
    go_ret
    exact ⟨rfl, hk0⟩
end Go.Proofs.Ytkpagkopfdblgaa
