/- CellsNone, walked. -/
import Derived.Test.YthlojiefnclgkaaCellsL
namespace Go.Proofs.Ythlojiefnclgkaa
set_option linter.unusedVariables false
set_option linter.unusedSimpArgs false
open Go Go.RowKit
set_option maxRecDepth 100000

theorem cellsNone_c (n a v : Int) (w : World) : Calls Try.prog 11 #[.int .i64 n, .int .i64 a, .int .u64 v] w fun e w' => e = .returned (.bool true) ∧ Keeps w w' := by
  have h1 := mod_bd n 50 (by omega)
  have h2 := mod_bd a 1000 (by omega)
  go_enter Try.func11, Try.ntmps11
  go_wp2_with (first
    | (go_at_call 31; refine (cfirst_c _).mono ?_; rintro e w' ⟨rfl, K⟩)
    | (go_at_call 38; refine (number_c _ _ _ (by omega) (by omega)).mono ?_; rintro e w' ⟨rfl, rfl⟩)
    | (go_at_call 32; refine (mnew_int _ _ (by omega) (by omega)).mono ?_; rintro e w' ⟨g, b, rfl, hk, hg1, hb1, M⟩; have K := K.trans hk)
    | (go_at_call 32; refine (cnew_out _ _ (by omega)).mono ?_; rintro e w' ⟨rfl, rfl⟩)
    | (go_at_call 55; refine (mload_out M _ (by omega)).mono ?_; rintro e w' ⟨rfl, rfl⟩)
    | (go_at_call 49; refine (mstore_out M _ _ (by omega)).mono ?_; rintro e w' ⟨rfl, rfl⟩)
    | (go_at_call 50; refine (mcas_out M _ _ _ (by omega)).mono ?_; rintro e w' ⟨rfl, rfl⟩)
    | (go_at_call 33; refine (madd_out M _ _ (by omega)).mono ?_; rintro e w' ⟨rfl, rfl⟩)
    | (go_at_call 60; refine (mlay_out M _ _ (by omega)).mono ?_; rintro e w' ⟨rfl, rfl⟩)
    | (go_at_call 34; refine (mpeek_out M _ (by omega)).mono ?_; rintro e w' ⟨rfl, rfl⟩)
    | (go_at_call 35; refine (mcount M).mono ?_; rintro e w' ⟨rfl, rfl⟩))
  all_goals go_ret
  all_goals exact ⟨rfl, by (repeat' (first | (with_reducible exact Keeps.refl _) | (with_reducible assumption) | (with_reducible refine Keeps.drewN ?_ _) | (with_reducible refine Keeps.drew ?_) | (with_reducible refine Keeps.alloc ?_ _) | (with_reducible refine Keeps.setCell ?_ ?_ _) | (with_reducible refine Keeps.trans ?_ (After.keeps _)) | (with_reducible refine Keeps.trans ?_ (by with_reducible assumption)) | go_size))⟩
end Go.Proofs.Ythlojiefnclgkaa
