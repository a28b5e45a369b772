/- The laws on cells: each walked, by the contracts of what it calls. -/
import Derived.Test.YtkpagkopfdblgaaMem
import Derived.Test.YtkpagkopfdblgaaNum
namespace Go.Proofs.Ytkpagkopfdblgaa
set_option linter.unusedVariables false
set_option linter.unusedSimpArgs false
open Go Go.RowKit
set_option maxRecDepth 100000


set_option maxHeartbeats 400000 in
theorem cfirst_c (w : World) : Calls Try.prog 30 #[] w fun e w' => e = .returned (.bool true) ∧ Keeps w w' := by
  have e1 : Hid (IntKind.u64.wrap (0 + 5) = 5) := by show _ = _; decide +kernel
  have e2 : Hid (IntKind.u64.wrap (5 + 3) = 8) := by show _ = _; decide +kernel
  go_enter Try.func30, Try.ntmps30
  go_wp2_with (first
    | (go_at_call 31; refine (mnew 2 _ (by omega) (by omega)).mono ?_; rintro e w' ⟨g, b, rfl, K, hg1, hb1, M⟩; have M : Mem _ g b 2 [0, 0] 0 _ := M)
    | (go_at_call 41; refine (madd_in (l := [0, 0]) M 1 (o := 0) _ (by rfl) (by omega)).mono ?_; rintro e w' ⟨rfl, hu, M⟩; have K := K.upd2 hu hg1 hb1; rw [e1.out] at M; have M : Mem _ g b 2 [0, 5] 1 _ := M)
    | (go_at_call 41; refine (madd_in (l := [0, 5]) M 1 (o := 5) _ (by rfl) (by omega)).mono ?_; rintro e w' ⟨rfl, hu, M⟩; have K := K.upd2 hu hg1 hb1; rw [e2.out] at M; have M : Mem _ g b 2 [0, 8] 2 _ := M)
    | (go_at_call 33; refine (mlast M).mono ?_; rintro e w' ⟨rfl, hk⟩; have M := M.keeps hk; have K := K.trans hk)
    | (go_at_call 45; refine (mcount (by repeat' (first | (with_reducible assumption) | (with_reducible apply Mem.alloc) | (with_reducible apply Mem.drewN) | (with_reducible apply Mem.drew) | (with_reducible apply Mem.far; (case h1 => first | assumption | (simp; done) | (intro e_; simp at e_; omega)); (case h2 => first | assumption | (simp; done) | (intro e_; simp at e_; omega)))))).mono ?_; rintro e w' ⟨rfl, rfl⟩)
    | (go_at_call 32; refine (mlen (by repeat' (first | (with_reducible assumption) | (with_reducible apply Mem.alloc) | (with_reducible apply Mem.drewN) | (with_reducible apply Mem.drew) | (with_reducible apply Mem.far; (case h1 => first | assumption | (simp; done) | (intro e_; simp at e_; omega)); (case h2 => first | assumption | (simp; done) | (intro e_; simp at e_; omega)))))).mono ?_; rintro e w' ⟨rfl, rfl⟩))
  go_ret
  exact ⟨rfl, by ((repeat' (first | (with_reducible exact Keeps.refl _) | (with_reducible assumption) | (with_reducible refine Keeps.drewN ?_ _) | (with_reducible refine Keeps.drew ?_) | (with_reducible refine Keeps.alloc ?_ _) | (with_reducible refine Keeps.setCell ?_ ?_ _) | (with_reducible refine Keeps.trans ?_ (After.keeps _)) | (with_reducible refine Keeps.trans ?_ (by with_reducible assumption)) | go_size)); (first | done | fail))⟩

/-- The sum of the first k. -/
def sumTo (zs : List Int) : Nat → Int
  | 0 => 0
  | k + 1 => IntKind.u64.wrap (sumTo zs k + zs.getD k 0)

theorem sumTo_succ (zs : List Int) {k : Nat} (h : k < zs.length) : sumTo zs (k + 1) = IntKind.u64.wrap (sumTo zs k + zs[k]) := by simp [sumTo, h]

end Go.Proofs.Ytkpagkopfdblgaa
