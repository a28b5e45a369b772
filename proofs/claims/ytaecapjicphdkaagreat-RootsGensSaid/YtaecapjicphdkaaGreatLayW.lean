/- What package lay computes: each function walked once. -/
import Derived.Test.YtaecapjicphdkaaGreatWordW
namespace Go.Proofs.YtaecapjicphdkaaGreat
set_option linter.unusedVariables false
set_option linter.unusedSimpArgs false
open Go Go.RowKit
set_option maxRecDepth 100000

theorem lwithin_c (n a b : Int) (w : World) : Calls Tryz.prog 74 #[.int .i64 n, .int .i64 a, .int .i64 b] w fun e w' => e = .returned (.bool (withinB n a b)) ∧ w = w' := by
  go_enter Tryz.func74, Tryz.ntmps74
  go_wp2
  all_goals go_ret
  · have h : decide (a ≤ n) = true := decide_eq_true (by assumption)
    exact ⟨by unfold withinB; rw [h]; rfl, rfl⟩
  · have h : decide (a ≤ n) = false := decide_eq_false (by omega)
    exact ⟨by unfold withinB; rw [h]; rfl, rfl⟩

/-- May a configuration be? -/
def mayB (p k d s c b : Int) : Bool := withinB p 1 64 && (withinB k 1 4096 && (withinB d 8 1024 && ((d % 8 == 0) && (withinB s 1 4096 && (withinB c 0 64 && withinB b 1 8)))))
theorem mayB_true {p k d s c b : Int} : mayB p k d s c b = true ↔ (1 ≤ p ∧ p ≤ 64) ∧ (1 ≤ k ∧ k ≤ 4096) ∧ (8 ≤ d ∧ d ≤ 1024) ∧ d % 8 = 0 ∧ (1 ≤ s ∧ s ≤ 4096) ∧ (0 ≤ c ∧ c ≤ 64) ∧ 1 ≤ b ∧ b ≤ 8 := by
  unfold mayB; simp only [Bool.and_eq_true, withinB_true, beq_iff_eq]

theorem may_c (p k d s c b : Int) (w : World) : Calls Tryz.prog 35 #[.agg #[.int .i64 p, .int .i64 k, .int .i64 d, .int .i64 s, .int .i64 c, .int .i64 b]] w fun e w' => e = .returned (.bool (mayB p k d s c b)) ∧ Keeps w w' := by
  cases h1 : withinB p 1 64 with
  | false =>
    have e : mayB p k d s c b = false := by unfold mayB; rw [h1]; rfl
    rw [e]
    have H1 := Lib.hid h1
    clear h1 e
    go_enter Tryz.func35, Tryz.ntmps35
    go_wp2_with (go_at_call 74; refine (lwithin_c _ _ _ _).mono ?_; rintro e w' ⟨rfl, rfl⟩; rw [H1.out])
    go_ret
    exact ⟨rfl, by ((repeat' (first | (with_reducible exact Keeps.refl _) | (with_reducible assumption) | (with_reducible refine Keeps.drewN ?_ _) | (with_reducible refine Keeps.drew ?_) | (with_reducible refine Keeps.alloc ?_ _) | (with_reducible refine Keeps.setCell ?_ ?_ _) | (with_reducible refine Keeps.trans ?_ (After.keeps _)) | (with_reducible refine Keeps.trans ?_ (by with_reducible assumption)) | go_size)); (first | done | fail))⟩
  | true =>
  have H1 := Lib.hid h1
  cases h2 : withinB k 1 4096 with
  | false =>
    have e : mayB p k d s c b = false := by unfold mayB; rw [h1, h2]; rfl
    rw [e]
    have H2 := Lib.hid h2
    clear h1 h2 e
    go_enter Tryz.func35, Tryz.ntmps35
    go_wp2_with (go_at_call 74; refine (lwithin_c _ _ _ _).mono ?_; rintro e w' ⟨rfl, rfl⟩; first | rw [H1.out] | rw [H2.out])
    go_ret
    exact ⟨rfl, by ((repeat' (first | (with_reducible exact Keeps.refl _) | (with_reducible assumption) | (with_reducible refine Keeps.drewN ?_ _) | (with_reducible refine Keeps.drew ?_) | (with_reducible refine Keeps.alloc ?_ _) | (with_reducible refine Keeps.setCell ?_ ?_ _) | (with_reducible refine Keeps.trans ?_ (After.keeps _)) | (with_reducible refine Keeps.trans ?_ (by with_reducible assumption)) | go_size)); (first | done | fail))⟩
  | true =>
  have H2 := Lib.hid h2
  cases h3 : withinB d 8 1024 with
  | false =>
    have e : mayB p k d s c b = false := by unfold mayB; rw [h1, h2, h3]; rfl
    rw [e]
    have H3 := Lib.hid h3
    clear h1 h2 h3 e
    go_enter Tryz.func35, Tryz.ntmps35
    go_wp2_with (go_at_call 74; refine (lwithin_c _ _ _ _).mono ?_; rintro e w' ⟨rfl, rfl⟩; first | rw [H1.out] | rw [H2.out] | rw [H3.out])
    go_ret
    exact ⟨rfl, by ((repeat' (first | (with_reducible exact Keeps.refl _) | (with_reducible assumption) | (with_reducible refine Keeps.drewN ?_ _) | (with_reducible refine Keeps.drew ?_) | (with_reducible refine Keeps.alloc ?_ _) | (with_reducible refine Keeps.setCell ?_ ?_ _) | (with_reducible refine Keeps.trans ?_ (After.keeps _)) | (with_reducible refine Keeps.trans ?_ (by with_reducible assumption)) | go_size)); (first | done | fail))⟩
  | true =>
  have H3 := Lib.hid h3
  obtain ⟨d1, d2⟩ := withinB_true.1 h3
  cases hm : (d % 8 == 0) with
  | false =>
    have e : mayB p k d s c b = false := by unfold mayB; rw [h1, h2, h3, hm]; rfl
    rw [e]
    clear h1 h2 h3 e
    go_enter Tryz.func35, Tryz.ntmps35
    go_wp2_with (go_at_call 74; refine (lwithin_c _ _ _ _).mono ?_; rintro e w' ⟨rfl, rfl⟩; first | rw [H1.out] | rw [H2.out] | rw [H3.out])
    go_ret
    exact ⟨rfl, by ((repeat' (first | (with_reducible exact Keeps.refl _) | (with_reducible assumption) | (with_reducible refine Keeps.drewN ?_ _) | (with_reducible refine Keeps.drew ?_) | (with_reducible refine Keeps.alloc ?_ _) | (with_reducible refine Keeps.setCell ?_ ?_ _) | (with_reducible refine Keeps.trans ?_ (After.keeps _)) | (with_reducible refine Keeps.trans ?_ (by with_reducible assumption)) | go_size)); (first | done | fail))⟩
  | true =>
  cases h4 : withinB s 1 4096 with
  | false =>
    have e : mayB p k d s c b = false := by unfold mayB; rw [h1, h2, h3, hm, h4]; rfl
    rw [e]
    have H4 := Lib.hid h4
    clear h1 h2 h3 h4 e
    go_enter Tryz.func35, Tryz.ntmps35
    go_wp2_with (go_at_call 74; refine (lwithin_c _ _ _ _).mono ?_; rintro e w' ⟨rfl, rfl⟩; first | rw [H1.out] | rw [H2.out] | rw [H3.out] | rw [H4.out])
    go_ret
    exact ⟨rfl, by ((repeat' (first | (with_reducible exact Keeps.refl _) | (with_reducible assumption) | (with_reducible refine Keeps.drewN ?_ _) | (with_reducible refine Keeps.drew ?_) | (with_reducible refine Keeps.alloc ?_ _) | (with_reducible refine Keeps.setCell ?_ ?_ _) | (with_reducible refine Keeps.trans ?_ (After.keeps _)) | (with_reducible refine Keeps.trans ?_ (by with_reducible assumption)) | go_size)); (first | done | fail))⟩
  | true =>
  have H4 := Lib.hid h4
  cases h5 : withinB c 0 64 with
  | false =>
    have e : mayB p k d s c b = false := by unfold mayB; rw [h1, h2, h3, hm, h4, h5]; rfl
    rw [e]
    have H5 := Lib.hid h5
    clear h1 h2 h3 h4 h5 e
    go_enter Tryz.func35, Tryz.ntmps35
    go_wp2_with (go_at_call 74; refine (lwithin_c _ _ _ _).mono ?_; rintro e w' ⟨rfl, rfl⟩; first | rw [H1.out] | rw [H2.out] | rw [H3.out] | rw [H4.out] | rw [H5.out])
    go_ret
    exact ⟨rfl, by ((repeat' (first | (with_reducible exact Keeps.refl _) | (with_reducible assumption) | (with_reducible refine Keeps.drewN ?_ _) | (with_reducible refine Keeps.drew ?_) | (with_reducible refine Keeps.alloc ?_ _) | (with_reducible refine Keeps.setCell ?_ ?_ _) | (with_reducible refine Keeps.trans ?_ (After.keeps _)) | (with_reducible refine Keeps.trans ?_ (by with_reducible assumption)) | go_size)); (first | done | fail))⟩
  | true =>
  have H5 := Lib.hid h5
  have e : mayB p k d s c b = withinB b 1 8 := by unfold mayB; rw [h1, h2, h3, hm, h4, h5]; rfl
  rw [e]
  clear h1 h2 h3 h4 h5 e
  go_enter Tryz.func35, Tryz.ntmps35
  go_wp2_with (go_at_call 74; refine (lwithin_c _ _ _ _).mono ?_; rintro e w' ⟨rfl, rfl⟩; first | rw [H1.out] | rw [H2.out] | rw [H3.out] | rw [H4.out] | rw [H5.out] | skip)
  go_ret
  exact ⟨rfl, by ((repeat' (first | (with_reducible exact Keeps.refl _) | (with_reducible assumption) | (with_reducible refine Keeps.drewN ?_ _) | (with_reducible refine Keeps.drew ?_) | (with_reducible refine Keeps.alloc ?_ _) | (with_reducible refine Keeps.setCell ?_ ?_ _) | (with_reducible refine Keeps.trans ?_ (After.keeps _)) | (with_reducible refine Keeps.trans ?_ (by with_reducible assumption)) | go_size)); (first | done | fail))⟩

theorem prod_bd {k d : Int} (h1 : 1 ≤ k) (h2 : k ≤ 4096) (h3 : 8 ≤ d) (h4 : d ≤ 1024) : 8 ≤ k * d ∧ k * d ≤ 4194304 := by
  have a := Int.mul_le_mul h1 h3 (by omega) (by omega)
  have b := Int.mul_le_mul h2 h4 (by omega) (by omega)
  omega

set_option maxHeartbeats 1000000 in
theorem parts_c (p k d s c b : Int) (w : World) (h : mayB p k d s c b = true) : Calls Tryz.prog 36 #[.agg #[.int .i64 p, .int .i64 k, .int .i64 d, .int .i64 s, .int .i64 c, .int .i64 b]] w fun e w' =>
    e = .returned (.agg #[.int .i64 3, .int .i64 3, .int .i64 p, .int .i64 4, .int .i64 (3 + p), .int .i64 s, .int .i64 5, .int .i64 (3 + p + s), .int .i64 s, .int .i64 6, .int .i64 (3 + p + s + s), .int .i64 k, .int .i64 7, .int .i64 (3 + p + s + s + k), .int .i64 (k * d)]) ∧ Keeps w w' := by
  obtain ⟨⟨p0, p1⟩, ⟨k0, k1⟩, ⟨d0, d1⟩, -, ⟨s0, s1⟩, ⟨c0, c1⟩, b0, b1⟩ := mayB_true.1 h
  obtain ⟨q0, q1⟩ := prod_bd k0 k1 d0 d1
  clear h
  go_enter Tryz.func36, Tryz.ntmps36
  go_wp2
  go_rounds 6
  go_returns
  exact ⟨rfl, by ((repeat' (first | (with_reducible exact Keeps.refl _) | (with_reducible assumption) | (with_reducible refine Keeps.drewN ?_ _) | (with_reducible refine Keeps.drew ?_) | (with_reducible refine Keeps.alloc ?_ _) | (with_reducible refine Keeps.setCell ?_ ?_ _) | (with_reducible refine Keeps.trans ?_ (After.keeps _)) | (with_reducible refine Keeps.trans ?_ (by with_reducible assumption)) | go_size)); (first | done | fail))⟩
end Go.Proofs.YtaecapjicphdkaaGreat
