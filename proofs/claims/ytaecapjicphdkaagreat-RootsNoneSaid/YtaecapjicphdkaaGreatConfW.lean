/- What rundalemake.Config computes: a small configuration that may be. -/
import Derived.Test.YtaecapjicphdkaaGreatLayC
import Derived.Test.YtaecapjicphdkaaGreatHeap
import Derived.Test.YtaecapjicphdkaaGreatNum
import Derived.Deep.DeepCutAuto
namespace Go.Proofs.YtaecapjicphdkaaGreat
set_option linter.unusedVariables false
set_option linter.unusedSimpArgs false
open Go Go.RowKit
set_option maxRecDepth 100000

theorem number_b (v n : Int) (w : World) (h : 1 ≤ n) (h2 : n ≤ 4611686018427387904) : Calls Tryz.prog 10 #[.int .i64 v, .int .i64 n] w fun e w' => ∃ z : Int, e = .returned (.int .i64 z) ∧ 0 ≤ z ∧ z < n ∧ w = w' :=
  (number_c v n w h h2).mono fun e w' ⟨he, hw⟩ => ⟨_, he, Int.emod_nonneg _ (by omega), Int.emod_lt_of_pos _ (by omega), hw⟩

theorem seqN_c (g b at_ len cap : Nat) (o n : Int) (w : World) (hg : Has w g #[.slice (some ⟨b, 0, none⟩) len cap, .int .i64 at_] 91) (hcell : w.cell? ⟨b, at_, none⟩ = some (.int .i64 o)) (hl : at_ < len) (hlen : len ≤ 100000) (h0 : 1 ≤ n) (h1 : n ≤ 1000000) :
    Calls Tryz.prog 34 #[.pointer (some ⟨g, 0, none⟩), .int .i64 n] w fun e w' => ∃ z : Int, e = .returned (.int .i64 z) ∧ (0 ≤ z ∧ z < n) ∧ Upd [g] w w' ∧ Has w' g #[.slice (some ⟨b, 0, none⟩) len cap, .int .i64 (at_ + 1 : Nat)] 91 := by
  have l1 : (0 : Int) ≤ (at_ : Int) := by omega
  have l2 : (at_ : Int) < (len : Int) := by omega
  have l3 : (at_ : Int) ≤ 100000 := by omega
  have HG := Lib.hid hg
  have F_ := (hg).facts; simp only [blockFacts, listFacts, cellsAt, Nat.reduceAdd, and_true, true_and, and_assoc] at F_
  go_enter Tryz.func34, Tryz.ntmps34
  go_wp2
  go_quiet (fail)
  go_wp2
  go_quiet (fail)
  go_wp2_with (go_at_call 10; refine (number_b _ _ _ h0 (by omega)).mono ?_; rintro e w' ⟨z, rfl, hz0, hz1, rfl⟩)
  go_ret
  have hg := HG.out
  exact ⟨z, rfl, ⟨hz0, hz1⟩, by (repeat (first | (with_reducible exact Upd.refl _ _) | (with_reducible assumption) | (with_reducible refine Upd.setCell ?_ (by first | (left; simp; done) | (right; go_size)) _) | (with_reducible refine Upd.alloc ?_ _) | (with_reducible refine Upd.drewN ?_ _) | (with_reducible refine Upd.drew ?_))), by (apply Has.congr; (focus ((repeat (first | (with_reducible assumption) | (with_reducible exact Has.new _ _ _) | (with_reducible exact Has.new1 _ _ _ _) | (with_reducible exact Has.new2 _ _ _ _ _) | (with_reducible refine Has.newAt ?_; (simp; done)) | (with_reducible apply Has.set) | (with_reducible apply Has.far; (case hn => first | assumption | (simp; done) | (intro e_; simp at e_; omega))) | (with_reducible apply Has.alloc) | (with_reducible apply Has.drewN) | (with_reducible apply Has.drew) | (with_reducible refine Has.keeps ?_ (by with_reducible assumption)))))); (first | rfl | (simp; done)))⟩

set_option maxHeartbeats 1000000 in
theorem config_c (v : Int) (w : World) : Calls Tryz.prog 7 #[.int .i64 v] w fun e w' => ∃ p k d s c b : Int, e = .returned (.agg #[.int .i64 p, .int .i64 k, .int .i64 d, .int .i64 s, .int .i64 c, .int .i64 b]) ∧
    ((1 ≤ p ∧ p ≤ 4) ∧ (1 ≤ k ∧ k ≤ 8) ∧ (d = 8 ∨ d = 16) ∧ (1 ≤ s ∧ s ≤ 4) ∧ (0 ≤ c ∧ c ≤ 3) ∧ 1 ≤ b ∧ b ≤ 3) ∧ Keeps w w' := by
  go_enter Tryz.func7, Tryz.ntmps7
  go_upto_region 2 with ((go_at_call 10; refine (number_b _ _ _ (by omega) (by omega)).mono ?_; rintro e w' ⟨z, rfl, hz0, hz1, rfl⟩))
  go_wp2_with (first
    | (go_at_call 34; refine (seqN_c (w.heap.size + 1 + 1) (w.heap.size + 1) 0 6 6 _ _ _ (Has.new2 _ _ _ _ _) (((Has.new1 _ _ _ _).alloc _).cell 0) (by omega) (by omega) (by omega) (by omega)).mono ?_; rintro e w' ⟨y0, rfl, ⟨hy0, hz0⟩, hu, G⟩; have B := ((Has.new1 _ _ _ _).alloc _).upd hu (by simp); have C := (((Has.new _ _ _).alloc _).alloc _).upd hu (by simp; omega); have K := (((((Keeps.refl w).alloc _).alloc _).alloc _).upd hu (by intro x hx; simp at hx; omega)); clear hu)
    | (go_at_call 34; refine (seqN_c _ _ 1 6 6 _ _ _ G (B.cell 1) (by omega) (by omega) (by omega) (by omega)).mono ?_; rintro e w' ⟨y1, rfl, ⟨hy1, hz1⟩, hu, G⟩; replace B := B.upd hu (by simp); replace C := C.upd hu (by simp; omega); replace K := K.upd hu (by intro x hx; simp at hx; omega); clear hu)
    | (go_at_call 34; refine (seqN_c _ _ 2 6 6 _ _ _ G (B.cell 2) (by omega) (by omega) (by omega) (by omega)).mono ?_; rintro e w' ⟨y2, rfl, ⟨hy2, hz2⟩, hu, G⟩; replace B := B.upd hu (by simp); replace C := C.upd hu (by simp; omega); replace K := K.upd hu (by intro x hx; simp at hx; omega); clear hu)
    | (go_at_call 34; refine (seqN_c _ _ 3 6 6 _ _ _ G (B.cell 3) (by omega) (by omega) (by omega) (by omega)).mono ?_; rintro e w' ⟨y3, rfl, ⟨hy3, hz3⟩, hu, G⟩; replace B := B.upd hu (by simp); replace C := C.upd hu (by simp; omega); replace K := K.upd hu (by intro x hx; simp at hx; omega); clear hu)
    | (go_at_call 34; refine (seqN_c _ _ 4 6 6 _ _ _ G (B.cell 4) (by omega) (by omega) (by omega) (by omega)).mono ?_; rintro e w' ⟨y4, rfl, ⟨hy4, hz4⟩, hu, G⟩; replace B := B.upd hu (by simp); replace C := C.upd hu (by simp; omega); replace K := K.upd hu (by intro x hx; simp at hx; omega); clear hu)
    | (go_at_call 34; refine (seqN_c _ _ 5 6 6 _ _ _ G (B.cell 5) (by omega) (by omega) (by omega) (by omega)).mono ?_; rintro e w' ⟨y5, rfl, ⟨hy5, hz5⟩, hu, G⟩; replace B := B.upd hu (by simp); replace C := C.upd hu (by simp; omega); replace K := K.upd hu (by intro x hx; simp at hx; omega); clear hu; have F_ := (C).facts; simp only [blockFacts, listFacts, cellsAt, Nat.reduceAdd, and_true, true_and, and_assoc] at F_))
  refine bodyPost_ret (v := .agg #[.int .i64 (1 + y0), .int .i64 (1 + y1), .int .i64 (8 + 8 * y2), .int .i64 (1 + y3), .int .i64 y4, .int .i64 (1 + y5)]) (by simp [results, Tryz.results7, go_sem, F_]) rfl ⟨_, _, _, _, _, _, rfl, by omega, by ((repeat' (first | (with_reducible exact Keeps.refl _) | (with_reducible assumption) | (with_reducible refine Keeps.drewN ?_ _) | (with_reducible refine Keeps.drew ?_) | (with_reducible refine Keeps.alloc ?_ _) | (with_reducible refine Keeps.setCell ?_ ?_ _) | (with_reducible refine Keeps.trans ?_ (After.keeps _)) | (with_reducible refine Keeps.trans ?_ (by with_reducible assumption)) | go_size)); (first | done | fail))⟩
end Go.Proofs.YtaecapjicphdkaaGreat
