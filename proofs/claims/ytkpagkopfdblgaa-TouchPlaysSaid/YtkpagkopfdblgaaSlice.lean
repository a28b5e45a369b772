/- slices.Clone, Index, Contains over ints. -/
import Derived.Test.YtkpagkopfdblgaaRow
import Derived.Test.YtkpagkopfdblgaaMem
import Derived.Lib.SliceRun
namespace Go.Proofs.Ytkpagkopfdblgaa
set_option linter.unusedVariables false
set_option linter.unusedSimpArgs false
open Go Go.RowKit
set_option maxRecDepth 100000

theorem info_int : (Try.prog.info? 3).map (fun i => (i.zero, i.size, i.bytes)) = some (some (.int .i64 0), 1, 8) := by kernel_rfl
/-- ints, as values. -/
@[reducible] def ivals (zs : List Int) : List Value := zs.map (.int .i64)
theorem ivals_one (zs : List Int) : ∀ u ∈ ivals zs, u.oneCell' = true := by
  intro u hu
  obtain ⟨z, _, rfl⟩ := List.mem_map.1 hu
  rfl
end Go.Proofs.Ytkpagkopfdblgaa
