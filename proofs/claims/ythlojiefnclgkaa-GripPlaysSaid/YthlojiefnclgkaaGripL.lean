/- The laws on grips: each walked, by the contracts of what it calls. -/
import Derived.Test.YthlojiefnclgkaaGripW
import Derived.Test.YthlojiefnclgkaaNum
namespace Go.Proofs.Ythlojiefnclgkaa
set_option linter.unusedVariables false
set_option linter.unusedSimpArgs false
open Go Go.RowKit
set_option maxRecDepth 100000

theorem GripAt.k1 {w0 w w' : World} {g : Nat} {d : Int} {L : List (Int × Int)} {v : Value} (K : Keeps w0 w) (G : GripAt w0.heap.size w g d L v) (hu : Upd [g] w w') : Keeps w0 w' :=
  K.upd hu (by simp; exact G.le)
theorem GripAt.k2 {w0 w w' : World} {g : Nat} {d : Int} {L : List (Int × Int)} {v : Value} (K : Keeps w0 w) (G : GripAt w0.heap.size w g d L v) (hu : Upd (g :: ownOf v) w w') : Keeps w0 w' :=
  K.upd hu (fun x hx => by
    rcases List.mem_cons.1 hx with rfl | hx
    · exact G.le
    · exact (G.row.own x hx).1)

theorem gfirst_c (w : World) : Calls Try.prog 36 #[] w fun e w' => e = .returned (.bool true) ∧ Keeps w w' := by
  have K := Keeps.refl w
  go_enter Try.func36, Try.ntmps36
  go_wp2_with (first
    | (go_at_call 37; refine (gnew_c _ w.heap.size K.size).mono ?_; rintro e w' ⟨g, rfl, hk, hg, G⟩; have K := K.trans hk)
    | (go_at_call 39; refine (gpin_c _ _ _ 0 _ _ G (by omega) (by omega)).mono ?_; rintro e w' ⟨rfl, hu, G1⟩; have K := G.k1 K hu; have G : GripAt _ _ g 1 _ _ := G1)
    | (go_at_call 43; refine (ghold_new _ _ _ 1 [] _ _ _ G (by omega) (by simp) (by simp)).mono ?_; rintro e w' ⟨v1, rfl, hu, G1⟩; have K := G.k2 K hu; have G : GripAt _ _ g 1 [(1, 1)] _ := G1)
    | (go_at_call 47; refine (gholds_c _ _ _ _ [(1, 1)] _ _ _ G).mono ?_; rintro e w' ⟨rfl, hk⟩; have K := K.trans hk; have G := G.keeps hk)
    | (go_at_call 47; refine (gholds_c _ _ _ _ [] _ _ _ G).mono ?_; rintro e w' ⟨rfl, hk⟩; have K := K.trans hk; have G := G.keeps hk)
    | (go_at_call 41; refine (gunpin_last _ _ _ _ _ G).mono ?_; rintro e w' ⟨rfl, hu, G1⟩; have K := G.k1 K hu; have G := G1)
    | (go_at_call 45; refine (gdepth_c _ _ _ _ _ _ G).mono ?_; rintro e w' ⟨rfl, rfl⟩))
  go_ret
  exact ⟨rfl, by (repeat' (first | (with_reducible exact Keeps.refl _) | (with_reducible assumption) | (with_reducible refine Keeps.drewN ?_ _) | (with_reducible refine Keeps.drew ?_) | (with_reducible refine Keeps.alloc ?_ _) | (with_reducible refine Keeps.setCell ?_ ?_ _) | (with_reducible refine Keeps.trans ?_ (After.keeps _)) | (with_reducible refine Keeps.trans ?_ (by with_reducible assumption)) | go_size))⟩

set_option maxHeartbeats 1000000 in
theorem gripApart_c (a b c d : Int) (w : World) : Calls Try.prog 7 #[.int .i64 a, .int .i64 b, .int .i64 c, .int .i64 d] w fun e w' => e = .returned (.bool true) ∧ Keeps w w' := by
  by_cases h1 : a = c
  · subst h1
    by_cases h2 : b = d
    · subst h2
      go_enter Try.func7, Try.ntmps7
      go_wp2_with (first
      | (go_at_call 36; refine (gfirst_c _).mono ?_; rintro e w' ⟨rfl, K⟩)
      | (go_at_call 37; refine (gnew_c _ w.heap.size K.size).mono ?_; rintro e w' ⟨g, rfl, hk, hg, G⟩; have K := K.trans hk)
      | (go_at_call 39; refine (gpin_c _ _ _ 0 _ _ G (by omega) (by omega)).mono ?_; rintro e w' ⟨rfl, hu, G1⟩; have K := G.k1 K hu; have G : GripAt _ _ g 1 _ _ := G1)
      | (go_at_call 39; refine (gpin_c _ _ _ 1 _ _ G (by omega) (by omega)).mono ?_; rintro e w' ⟨rfl, hu, G1⟩; have K := G.k1 K hu; have G : GripAt _ _ g 2 _ _ := G1)
      | (go_at_call 43; refine (ghold_new _ _ _ 1 [] _ _ _ G (by omega) (by simp) (by simp)).mono ?_; rintro e w' ⟨v1, rfl, hu, G1⟩; have K := G.k2 K hu; have G : GripAt _ _ g 1 [(a, b)] _ := G1)
      | (go_at_call 41; refine (gunpin_more _ _ _ 2 _ _ G (by omega) (by omega)).mono ?_; rintro e w' ⟨rfl, hu, G1⟩; have K := G.k1 K hu; have G : GripAt _ _ g 1 _ _ := G1)
      | (go_at_call 46; refine (glen_c _ _ _ _ _ _ G).mono ?_; rintro e w' ⟨rfl, rfl⟩)
      | (go_at_call 45; refine (gdepth_c _ _ _ _ _ _ G).mono ?_; rintro e w' ⟨rfl, rfl⟩)
      | (go_at_call 43; refine (ghold_held _ _ _ 2 [(a, b)] _ _ _ G (by omega) (by simp)).mono ?_; rintro e w' ⟨rfl, hk⟩; have K := K.trans hk; have G := G.keeps hk)
      | (go_at_call 47; refine (gholds_c _ _ _ _ _ _ _ _ G).mono ?_; rintro e w' ⟨rfl, hk⟩; have K := K.trans hk; have G := G.keeps hk))
      go_ret
      exact ⟨rfl, by (repeat' (first | (with_reducible exact Keeps.refl _) | (with_reducible assumption) | (with_reducible refine Keeps.drewN ?_ _) | (with_reducible refine Keeps.drew ?_) | (with_reducible refine Keeps.alloc ?_ _) | (with_reducible refine Keeps.setCell ?_ ?_ _) | (with_reducible refine Keeps.trans ?_ (After.keeps _)) | (with_reducible refine Keeps.trans ?_ (by with_reducible assumption)) | go_size))⟩
    · have HN : Hid ((a, d) ∉ [(a, b)]) := Lib.hid (by simp; exact fun h => h2 h.symm)
      have HD : Hid (decide ((a, d) ∈ [(a, b)]) = false) := Lib.hid (decide_eq_false HN.out)
      have h3 : (b == d) = false := by simpa using h2
      go_enter Try.func7, Try.ntmps7
      go_wp2_with (first
      | (go_at_call 36; refine (gfirst_c _).mono ?_; rintro e w' ⟨rfl, K⟩)
      | (go_at_call 37; refine (gnew_c _ w.heap.size K.size).mono ?_; rintro e w' ⟨g, rfl, hk, hg, G⟩; have K := K.trans hk)
      | (go_at_call 39; refine (gpin_c _ _ _ 0 _ _ G (by omega) (by omega)).mono ?_; rintro e w' ⟨rfl, hu, G1⟩; have K := G.k1 K hu; have G : GripAt _ _ g 1 _ _ := G1)
      | (go_at_call 39; refine (gpin_c _ _ _ 1 _ _ G (by omega) (by omega)).mono ?_; rintro e w' ⟨rfl, hu, G1⟩; have K := G.k1 K hu; have G : GripAt _ _ g 2 _ _ := G1)
      | (go_at_call 43; refine (ghold_new _ _ _ 1 [] _ _ _ G (by omega) (by simp) (by simp)).mono ?_; rintro e w' ⟨v1, rfl, hu, G1⟩; have K := G.k2 K hu; have G : GripAt _ _ g 1 [(a, b)] _ := G1)
      | (go_at_call 41; refine (gunpin_more _ _ _ 2 _ _ G (by omega) (by omega)).mono ?_; rintro e w' ⟨rfl, hu, G1⟩; have K := G.k1 K hu; have G : GripAt _ _ g 1 _ _ := G1)
      | (go_at_call 46; refine (glen_c _ _ _ _ _ _ G).mono ?_; rintro e w' ⟨rfl, rfl⟩)
      | (go_at_call 45; refine (gdepth_c _ _ _ _ _ _ G).mono ?_; rintro e w' ⟨rfl, rfl⟩)
      | (go_at_call 43; refine (ghold_new _ _ _ 2 [(a, b)] _ _ _ G (by omega) (HN.out) (by simp)).mono ?_; rintro e w' ⟨v1, rfl, hu, G1⟩; have K := G.k2 K hu; have G : GripAt _ _ g 2 [(a, b), (a, d)] _ := G1)
      | (go_at_call 47; refine (gholds_c _ _ _ _ [(a, b)] _ _ _ G).mono ?_; rintro e w' ⟨rfl, hk⟩; (first | rw [HD.out] | skip); have K := K.trans hk; have G := G.keeps hk)
      | (go_at_call 47; refine (gholds_c _ _ _ _ [(a, b), (a, d)] _ _ _ G).mono ?_; rintro e w' ⟨rfl, hk⟩; have K := K.trans hk; have G := G.keeps hk))
      go_ret
      exact ⟨rfl, by (repeat' (first | (with_reducible exact Keeps.refl _) | (with_reducible assumption) | (with_reducible refine Keeps.drewN ?_ _) | (with_reducible refine Keeps.drew ?_) | (with_reducible refine Keeps.alloc ?_ _) | (with_reducible refine Keeps.setCell ?_ ?_ _) | (with_reducible refine Keeps.trans ?_ (After.keeps _)) | (with_reducible refine Keeps.trans ?_ (by with_reducible assumption)) | go_size))⟩
  · have HN : Hid ((c, d) ∉ [(a, b)]) := Lib.hid (by simp; exact fun h => absurd h.symm h1)
    have HD : Hid (decide ((c, d) ∈ [(a, b)]) = false) := Lib.hid (decide_eq_false HN.out)
    have h3 : (a == c) = false := by simpa using h1
    go_enter Try.func7, Try.ntmps7
    go_wp2_with (first
    | (go_at_call 36; refine (gfirst_c _).mono ?_; rintro e w' ⟨rfl, K⟩)
    | (go_at_call 37; refine (gnew_c _ w.heap.size K.size).mono ?_; rintro e w' ⟨g, rfl, hk, hg, G⟩; have K := K.trans hk)
    | (go_at_call 39; refine (gpin_c _ _ _ 0 _ _ G (by omega) (by omega)).mono ?_; rintro e w' ⟨rfl, hu, G1⟩; have K := G.k1 K hu; have G : GripAt _ _ g 1 _ _ := G1)
    | (go_at_call 39; refine (gpin_c _ _ _ 1 _ _ G (by omega) (by omega)).mono ?_; rintro e w' ⟨rfl, hu, G1⟩; have K := G.k1 K hu; have G : GripAt _ _ g 2 _ _ := G1)
    | (go_at_call 43; refine (ghold_new _ _ _ 1 [] _ _ _ G (by omega) (by simp) (by simp)).mono ?_; rintro e w' ⟨v1, rfl, hu, G1⟩; have K := G.k2 K hu; have G : GripAt _ _ g 1 [(a, b)] _ := G1)
    | (go_at_call 41; refine (gunpin_more _ _ _ 2 _ _ G (by omega) (by omega)).mono ?_; rintro e w' ⟨rfl, hu, G1⟩; have K := G.k1 K hu; have G : GripAt _ _ g 1 _ _ := G1)
    | (go_at_call 46; refine (glen_c _ _ _ _ _ _ G).mono ?_; rintro e w' ⟨rfl, rfl⟩)
    | (go_at_call 45; refine (gdepth_c _ _ _ _ _ _ G).mono ?_; rintro e w' ⟨rfl, rfl⟩)
    | (go_at_call 43; refine (ghold_new _ _ _ 2 [(a, b)] _ _ _ G (by omega) (HN.out) (by simp)).mono ?_; rintro e w' ⟨v1, rfl, hu, G1⟩; have K := G.k2 K hu; have G : GripAt _ _ g 2 [(a, b), (c, d)] _ := G1)
    | (go_at_call 47; refine (gholds_c _ _ _ _ [(a, b)] _ _ _ G).mono ?_; rintro e w' ⟨rfl, hk⟩; (first | rw [HD.out] | skip); have K := K.trans hk; have G := G.keeps hk)
    | (go_at_call 47; refine (gholds_c _ _ _ _ [(a, b), (c, d)] _ _ _ G).mono ?_; rintro e w' ⟨rfl, hk⟩; have K := K.trans hk; have G := G.keeps hk))
    go_ret
    exact ⟨rfl, by (repeat' (first | (with_reducible exact Keeps.refl _) | (with_reducible assumption) | (with_reducible refine Keeps.drewN ?_ _) | (with_reducible refine Keeps.drew ?_) | (with_reducible refine Keeps.alloc ?_ _) | (with_reducible refine Keeps.setCell ?_ ?_ _) | (with_reducible refine Keeps.trans ?_ (After.keeps _)) | (with_reducible refine Keeps.trans ?_ (by with_reducible assumption)) | go_size))⟩
end Go.Proofs.Ythlojiefnclgkaa
