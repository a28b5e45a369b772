/- The laws on words: each walked, by the contracts of what it calls. -/
import Derived.Test.YtkpagkopfdblgaaRefWordW
namespace Go.Proofs.Ytkpagkopfdblgaa
set_option linter.unusedVariables false
set_option linter.unusedSimpArgs false
open Go Go.RowKit
set_option maxRecDepth 100000

theorem wfirst_c (w : World) : Calls Try.prog 14 #[] w fun e w' => e = .returned (.bool true) ∧ Keeps w w' := by
  have A1 : Hid (headI 4 2 = 8589934597) := by show headI 4 2 = 8589934597; decide +kernel
  have A2 : Hid (headB 4 2 = true) := by show headB 4 2 = true; decide +kernel
  have A3 : Hid (pinI 5 = 11) := by show pinI 5 = 11; decide +kernel
  have A4 : Hid (withinB 5 0 4611686018427387903 = true) := by show withinB 5 0 4611686018427387903 = true; decide +kernel
  have A5 : Hid (pinGet 11 = 5) := by show pinGet 11 = 5; decide +kernel
  go_enter Try.func14, Try.ntmps14
  go_wp2_with (first
    | (go_at_call 17; refine (putHead_c _ _ _).mono ?_; rintro e w' ⟨rfl, h1⟩; rw [A1.out, A2.out])
    | (go_at_call 21; refine (putPin_c _ _).mono ?_; rintro e w' ⟨rfl, k, rfl⟩; rw [A3.out, A4.out])
    | (go_at_call 27; refine (getPin_c _ _ (by omega) (by omega)).mono ?_; rintro e w' ⟨rfl, k2, rfl⟩; rw [A5.out])
    | (go_at_call 23; refine (getHead_c _ _ (by omega) (by omega)).mono ?_; rintro e w' ⟨rfl, h2⟩))
  go_ret
  exact ⟨rfl, by ((repeat' (first | (with_reducible exact Keeps.refl _) | (with_reducible assumption) | (with_reducible refine Keeps.drewN ?_ _) | (with_reducible refine Keeps.drew ?_) | (with_reducible refine Keeps.alloc ?_ _) | (with_reducible refine Keeps.setCell ?_ ?_ _) | (with_reducible refine Keeps.trans ?_ (After.keeps _)) | (with_reducible refine Keeps.trans ?_ (by with_reducible assumption)) | go_size)); (first | done | fail))⟩

end Go.Proofs.Ytkpagkopfdblgaa
