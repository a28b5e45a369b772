/- What the document's answer on words computes: each function walked once. -/
import Derived.Test.YtaecapjicphdkaaWordW
import Derived.Test.YtaecapjicphdkaaRef1W
namespace Go.Proofs.Ytaecapjicphdkaa
set_option linter.unusedVariables false
set_option linter.unusedSimpArgs false
open Go Go.RowKit
set_option maxRecDepth 100000

theorem rin_c (n a b : Int) (w : World) : Calls Try.prog 83 #[.int .i64 n, .int .i64 a, .int .i64 b] w fun e w' => e = .returned (.bool (withinB n a b)) ∧ w = w' := by
  go_enter Try.func83, Try.ntmps83
  go_wp2
  all_goals go_ret
  · have h : decide (a ≤ n) = true := decide_eq_true (by assumption)
    exact ⟨by unfold withinB; rw [h]; rfl, rfl⟩
  · have h : decide (a ≤ n) = false := decide_eq_false (by omega)
    exact ⟨by unfold withinB; rw [h]; rfl, rfl⟩

theorem rputHead_c (i t : Int) (w : World) : Calls Try.prog 68 #[.agg #[.int .i64 i, .int .i64 t]] w fun e w' => e = .returned (.tuple #[.int .u64 (headI i t), .bool (headB i t)]) ∧ Keeps w w' := by
  cases h : headB i t with
  | false =>
    have e2 : headI i t = 0 := by unfold headI; rw [h]; rfl
    have h2 : ¬ ((-1 ≤ i ∧ i ≤ 4294967294) ∧ 0 ≤ t ∧ t ≤ 4294967295) := by rw [← headB_true, h]; simp
    rw [e2]
    clear e2 h
    go_enter Try.func68, Try.ntmps68
    go_wp2
    all_goals first | (exfalso; omega) | (go_ret2; exact ⟨rfl, by ((repeat' (first | (with_reducible exact Keeps.refl _) | (with_reducible assumption) | (with_reducible refine Keeps.drewN ?_ _) | (with_reducible refine Keeps.drew ?_) | (with_reducible refine Keeps.alloc ?_ _) | (with_reducible refine Keeps.setCell ?_ ?_ _) | (with_reducible refine Keeps.trans ?_ (After.keeps _)) | (with_reducible refine Keeps.trans ?_ (by with_reducible assumption)) | go_size)); (first | done | fail))⟩)
  | true =>
    have e2 : headI i t = t * 4294967296 + (i + 1) := by unfold headI; rw [h]; rfl
    obtain ⟨⟨b1, b2⟩, b3, b4⟩ := headB_true.1 h
    rw [e2]
    clear e2 h
    have b5 : i < 4294967295 := by omega
    go_enter Try.func68, Try.ntmps68
    go_wp2
    go_ret2
    exact ⟨rfl, by ((repeat' (first | (with_reducible exact Keeps.refl _) | (with_reducible assumption) | (with_reducible refine Keeps.drewN ?_ _) | (with_reducible refine Keeps.drew ?_) | (with_reducible refine Keeps.alloc ?_ _) | (with_reducible refine Keeps.setCell ?_ ?_ _) | (with_reducible refine Keeps.trans ?_ (After.keeps _)) | (with_reducible refine Keeps.trans ?_ (by with_reducible assumption)) | go_size)); (first | done | fail))⟩

end Go.Proofs.Ytaecapjicphdkaa
