/- GripNests, walked. -/
import Derived.Test.YthlojiefnclgkaaGripL
namespace Go.Proofs.Ythlojiefnclgkaa
set_option linter.unusedVariables false
set_option linter.unusedSimpArgs false
open Go Go.RowKit
set_option maxRecDepth 100000

theorem beq0 (k : Nat) : ((k : Int) == 0) = decide (k = 0) := by rw [Bool.eq_iff_iff]; simp
set_option maxHeartbeats 1000000 in
theorem gripNests_c (n : Int) (w : World) : Calls Try.prog 5 #[.int .i64 n] w fun e w' => e = .returned (.bool true) ∧ Keeps w w' := by
  have h3 := mod_bd n 15 (by omega)
  obtain ⟨m, hm⟩ : ∃ m : Nat, (m : Int) = n % 15 := ⟨(n % 15).toNat, by omega⟩
  rw [← hm] at h3
  have HM := Lib.hid hm.symm
  clear hm
  go_enter Try.func5, Try.ntmps5
  go_wp2_with (first
    | (go_at_call 36; refine (gfirst_c _).mono ?_; rintro e w' ⟨rfl, K⟩)
    | (go_at_call 38; refine (number_c _ _ _ (by omega) (by omega)).mono ?_; rintro e w' ⟨rfl, rfl⟩; rw [HM.out])
    | (go_at_call 37; refine (gnew_c _ w.heap.size K.size).mono ?_; rintro e w' ⟨g, rfl, hk, hg, G⟩; have K := K.trans hk))
  go_loopw [6] (fun i wr => ∃ (k : Nat) (v : Value), k ≤ m + 1 ∧ i = .int .i64 k ∧ GripAt w.heap.size wr g k [] v ∧ Keeps w wr) (fun i _ => m + 1 - (intOf i).toNat)
  case atStart => exact ⟨0, _, by omega, rfl, G, K⟩
  case round =>
    clear K G
    obtain ⟨k, v, hk, rfl, G, K⟩ := hrel
    by_cases hlt : k < m + 1
    · go_wp2_with (first
        | (go_at_call 39; refine (gpin_c _ _ _ _ _ _ G (by omega) (by omega)).mono ?_; rintro e w' ⟨rfl, hu, G1⟩; have K := G.k1 K hu; have G := G1)
        | (go_at_call 45; refine (gdepth_c _ _ _ _ _ _ G).mono ?_; rintro e w' ⟨rfl, rfl⟩))
      go_roundw
      case rel => exact ⟨k + 1, _, by omega, by go_num, G, K⟩
      case measure => simp [intOf]; omega
    · obtain rfl : k = m + 1 := by omega
      by_cases hm : m = 14
      · subst hm
        replace G : GripAt _ _ g 15 [] _ := G
        go_wp2_with (first
          | (go_at_call 39; refine (gpin_full _ _ _ _ _ G).mono ?_; rintro e w' ⟨rfl, rfl⟩)
          | (go_at_call 45; refine (gdepth_c _ _ _ _ _ _ G).mono ?_; rintro e w' ⟨rfl, rfl⟩)
          | (go_at_call 43; refine (ghold_new _ _ _ _ [] _ _ _ G (by omega) (by simp) (by simp)).mono ?_; rintro e w' ⟨v1, rfl, hu, G1⟩; have K := G.k2 K hu; have G : GripAt _ _ g _ [(3, 4)] _ := G1))
        go_loopw [11] (fun i wr => ∃ (j : Nat) (v : Value), j ≤ 15 ∧ i = .int .i64 j ∧ GripAt w.heap.size wr g j (if j = 0 then [] else [(3, 4)]) v ∧ Keeps w wr) (fun i _ => (intOf i).toNat)
        case atStart => exact ⟨15, _, by omega, rfl, G, K⟩
        case round =>
          clear K G
          obtain ⟨j, v, hj, rfl, G, K⟩ := hrel
          rcases (by omega : j = 0 ∨ j = 1 ∨ 2 ≤ j) with rfl | rfl | hj2
          · replace G : GripAt _ _ g 0 [] _ := G
            go_wp2_with (first
              | (go_at_call 41; refine (gunpin_none _ _ _ _ _ G).mono ?_; rintro e w' ⟨rfl, rfl⟩)
              | (go_at_call 47; refine (gholds_c _ _ _ _ [] _ _ _ G).mono ?_; rintro e w' ⟨rfl, hk⟩; have K := K.trans hk; have G := G.keeps hk)
              | (go_at_call 46; refine (glen_c _ _ _ _ _ _ G).mono ?_; rintro e w' ⟨rfl, rfl⟩)
              | (go_at_call 43; refine (ghold_unpinned _ _ _ _ _ _ _ G).mono ?_; rintro e w' ⟨rfl, rfl⟩))
            go_ret
            exact ⟨rfl, by (repeat' (first | (with_reducible exact Keeps.refl _) | (with_reducible assumption) | (with_reducible refine Keeps.drewN ?_ _) | (with_reducible refine Keeps.drew ?_) | (with_reducible refine Keeps.alloc ?_ _) | (with_reducible refine Keeps.setCell ?_ ?_ _) | (with_reducible refine Keeps.trans ?_ (After.keeps _)) | (with_reducible refine Keeps.trans ?_ (by with_reducible assumption)) | go_size))⟩
          · replace G : GripAt _ _ g 1 [(3, 4)] _ := G
            go_wp2_with (first
              | (go_at_call 47; refine (gholds_c _ _ _ _ [(3, 4)] _ _ _ G).mono ?_; rintro e w' ⟨rfl, hk⟩; have K := K.trans hk; have G := G.keeps hk)
              | (go_at_call 41; refine (gunpin_last _ _ _ _ _ G).mono ?_; rintro e w' ⟨rfl, hu, G1⟩; have K := G.k1 K hu; have G := G1)
              | (go_at_call 45; refine (gdepth_c _ _ _ _ _ _ G).mono ?_; rintro e w' ⟨rfl, rfl⟩))
            go_roundw
            case rel => exact ⟨0, _, by omega, rfl, G, K⟩
            case measure => simp [intOf]
          · rw [if_neg (by omega)] at G
            have hj1 : ((j : Int) == 1) = false := by simp; omega
            obtain ⟨q, rfl⟩ : ∃ q, j = q + 1 := ⟨j - 1, by omega⟩
            go_wp2_with (first
              | (go_at_call 47; refine (gholds_c _ _ _ _ [(3, 4)] _ _ _ G).mono ?_; rintro e w' ⟨rfl, hk⟩; have K := K.trans hk; have G := G.keeps hk)
              | (go_at_call 41; refine (gunpin_more _ _ _ _ _ _ G (by omega) (by omega)).mono ?_; rintro e w' ⟨rfl, hu, G1⟩; have K := G.k1 K hu; have G := G1)
              | (go_at_call 45; refine (gdepth_c _ _ _ _ _ _ G).mono ?_; rintro e w' ⟨rfl, rfl⟩))
            go_roundw
            case rel => exact ⟨q, _, by omega, rfl, by rw [if_neg (by omega)]; rw [show ((q + 1 : Nat) : Int) - 1 = (q : Int) by omega] at G; exact G, K⟩
            case measure => simp [intOf]
      · have hm15 : ((m : Int) + 1 == 15) = false := by simp; omega
        go_wp2_with (first
          | (go_at_call 43; refine (ghold_new _ _ _ _ [] _ _ _ G (by omega) (by simp) (by simp)).mono ?_; rintro e w' ⟨v1, rfl, hu, G1⟩; have K := G.k2 K hu; have G : GripAt _ _ g _ [(3, 4)] _ := G1))
        go_loopw [11] (fun i wr => ∃ (j : Nat) (v : Value), j ≤ 15 ∧ i = .int .i64 j ∧ GripAt w.heap.size wr g j (if j = 0 then [] else [(3, 4)]) v ∧ Keeps w wr) (fun i _ => (intOf i).toNat)
        case atStart => exact ⟨m + 1, _, by omega, by go_num, by rw [if_neg (by omega)]; exact G, K⟩
        case round =>
          clear K G
          obtain ⟨j, v, hj, rfl, G, K⟩ := hrel
          rcases (by omega : j = 0 ∨ j = 1 ∨ 2 ≤ j) with rfl | rfl | hj2
          · replace G : GripAt _ _ g 0 [] _ := G
            go_wp2_with (first
              | (go_at_call 41; refine (gunpin_none _ _ _ _ _ G).mono ?_; rintro e w' ⟨rfl, rfl⟩)
              | (go_at_call 47; refine (gholds_c _ _ _ _ [] _ _ _ G).mono ?_; rintro e w' ⟨rfl, hk⟩; have K := K.trans hk; have G := G.keeps hk)
              | (go_at_call 46; refine (glen_c _ _ _ _ _ _ G).mono ?_; rintro e w' ⟨rfl, rfl⟩)
              | (go_at_call 43; refine (ghold_unpinned _ _ _ _ _ _ _ G).mono ?_; rintro e w' ⟨rfl, rfl⟩))
            go_ret
            exact ⟨rfl, by (repeat' (first | (with_reducible exact Keeps.refl _) | (with_reducible assumption) | (with_reducible refine Keeps.drewN ?_ _) | (with_reducible refine Keeps.drew ?_) | (with_reducible refine Keeps.alloc ?_ _) | (with_reducible refine Keeps.setCell ?_ ?_ _) | (with_reducible refine Keeps.trans ?_ (After.keeps _)) | (with_reducible refine Keeps.trans ?_ (by with_reducible assumption)) | go_size))⟩
          · replace G : GripAt _ _ g 1 [(3, 4)] _ := G
            go_wp2_with (first
              | (go_at_call 47; refine (gholds_c _ _ _ _ [(3, 4)] _ _ _ G).mono ?_; rintro e w' ⟨rfl, hk⟩; have K := K.trans hk; have G := G.keeps hk)
              | (go_at_call 41; refine (gunpin_last _ _ _ _ _ G).mono ?_; rintro e w' ⟨rfl, hu, G1⟩; have K := G.k1 K hu; have G := G1)
              | (go_at_call 45; refine (gdepth_c _ _ _ _ _ _ G).mono ?_; rintro e w' ⟨rfl, rfl⟩))
            go_roundw
            case rel => exact ⟨0, _, by omega, rfl, G, K⟩
            case measure => simp [intOf]
          · rw [if_neg (by omega)] at G
            have hj1 : ((j : Int) == 1) = false := by simp; omega
            obtain ⟨q, rfl⟩ : ∃ q, j = q + 1 := ⟨j - 1, by omega⟩
            go_wp2_with (first
              | (go_at_call 47; refine (gholds_c _ _ _ _ [(3, 4)] _ _ _ G).mono ?_; rintro e w' ⟨rfl, hk⟩; have K := K.trans hk; have G := G.keeps hk)
              | (go_at_call 41; refine (gunpin_more _ _ _ _ _ _ G (by omega) (by omega)).mono ?_; rintro e w' ⟨rfl, hu, G1⟩; have K := G.k1 K hu; have G := G1)
              | (go_at_call 45; refine (gdepth_c _ _ _ _ _ _ G).mono ?_; rintro e w' ⟨rfl, rfl⟩))
            go_roundw
            case rel => exact ⟨q, _, by omega, rfl, by rw [if_neg (by omega)]; rw [show ((q + 1 : Nat) : Int) - 1 = (q : Int) by omega] at G; exact G, K⟩
            case measure => simp [intOf]
end Go.Proofs.Ythlojiefnclgkaa
