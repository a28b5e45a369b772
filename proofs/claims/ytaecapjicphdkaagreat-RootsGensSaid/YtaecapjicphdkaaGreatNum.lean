/- What rundalemake.Number computes. -/
import Derived.Test.YtaecapjicphdkaaGreatKeeps
namespace Go.Proofs.YtaecapjicphdkaaGreat
set_option linter.unusedVariables false
set_option linter.unusedSimpArgs false
open Go Go.RowKit
set_option maxRecDepth 100000

theorem tmod_low {v n : Int} (h : 1 ≤ n) (ht : v.tmod n < 0) : v.tmod n + n = v % n ∧ -n < v.tmod n := by
  have h1 := @Int.tmod_eq_emod v n
  have h2 := Int.emod_nonneg v (show n ≠ 0 by omega)
  have h3 := Int.emod_lt_of_pos v (show 0 < n by omega)
  split at h1 <;> omega

theorem tmod_high {v n : Int} (h : 1 ≤ n) (ht : 0 ≤ v.tmod n) : v.tmod n = v % n := by
  have h1 := @Int.tmod_eq_emod v n
  have h2 := Int.emod_nonneg v (show n ≠ 0 by omega)
  have h3 := Int.emod_lt_of_pos v (show 0 < n by omega)
  split at h1 <;> omega

theorem number_c (v n : Int) (w : World) (h : 1 ≤ n) (h2 : n ≤ 4611686018427387904) : Calls Tryz.prog 10 #[.int .i64 v, .int .i64 n] w fun e w' => e = .returned (.int .i64 (v % n)) ∧ w = w' := by
  have hn : (n == 0) = false := by simp; omega
  have hn2 : n ≠ 0 := by omega
  go_enter Tryz.func10, Tryz.ntmps10
  go_wp2
  all_goals go_ret
  · have h3 : v.tmod n < 0 := by assumption
    have h4 := tmod_low h h3
    refine ⟨?_, rfl⟩
    show Ending.returned (.int .i64 (wrap64 (v.tmod n + n))) = _
    rw [h4.1]
    have h5 := Int.emod_lt_of_pos v (show 0 < n by omega)
    have h6 := Int.emod_nonneg v (show n ≠ 0 by omega)
    have h7 : wrap64 (v % n) = v % n := by
      generalize v % n = z at *
      unfold wrap64
      omega
    rw [h7]
  · have h3 : 0 ≤ v.tmod n := by assumption
    exact ⟨by rw [← tmod_high h h3]; rfl, rfl⟩

theorem mod_bd (v : Int) (n : Int) (h : 1 ≤ n) : 0 ≤ v % n ∧ v % n < n := ⟨Int.emod_nonneg v (by omega), Int.emod_lt_of_pos v (by omega)⟩
end Go.Proofs.YtaecapjicphdkaaGreat
