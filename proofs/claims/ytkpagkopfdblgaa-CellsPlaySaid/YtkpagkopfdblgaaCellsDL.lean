/- The law CellsApart, walked. -/
import Derived.Test.YtkpagkopfdblgaaCellsL
import Derived.Test.YtkpagkopfdblgaaReads3
import Derived.Deep.DeepCutAuto
namespace Go.Proofs.Ytkpagkopfdblgaa
set_option linter.unusedVariables false
set_option linter.unusedSimpArgs false
open Go Go.RowKit
set_option maxRecDepth 100000

/-- What an access tells. -/
def doesV (q o v : Int) : Int := if q = 0 then o else if q = 1 then 0 else if q = 2 then (if o = v then 1 else 0) else o
/-- What a cell holds behind it. -/
def doesN (q o v u : Int) : Int := if q = 0 then o else if q = 1 then v else if q = 2 then (if o = v then u else o) else IntKind.u64.wrap (o + v)
def DoesPost (g b n i : Nat) (l : List Int) (c o q v u : Int) (w : World) (e : Ending) (w' : World) : Prop :=
  ∃ x' : Acc, e = .returned (.int .u64 (doesV q o v)) ∧ Upd [g, b] w w' ∧ Mem w' g b n (l.set i (doesN q o v u)) (c + 1) x'
theorem number_b (v n : Int) (w : World) (h : 1 ≤ n) (h2 : n ≤ 4611686018427387904) : Calls Try.prog 15 #[.int .i64 v, .int .i64 n] w fun e w' => ∃ z : Nat, e = .returned (.int .i64 z) ∧ (z : Int) < n ∧ w = w' := by
  refine (number_c v n w h h2).mono fun e w' ⟨he, hw⟩ => ?_
  have h0 := Int.emod_nonneg v (show n ≠ 0 by omega)
  have h1 := Int.emod_lt_of_pos v (show 0 < n by omega)
  obtain ⟨z, hz⟩ := Int.eq_ofNat_of_zero_le h0
  exact ⟨z, by rw [he, hz], by omega, hw⟩
theorem rep_at {n p : Nat} (h : p < n) : (List.replicate n (0 : Int))[p]? = some 0 := by rw [List.getElem?_replicate, if_pos h]
theorem wp_named {P : Program} {c : Code} {Q : Exit → Act → World → Prop} {a : Act} {w : World} (h : ∀ W, W = w → c.wp P Q a W) : c.wp P Q a w := h w rfl

end Go.Proofs.Ytkpagkopfdblgaa
