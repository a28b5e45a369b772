/- What package stack does: the Stack's own functions. -/
import Derived.Test.YtkpagkopfdblgaaSlice
import Derived.Test.YtkpagkopfdblgaaNum
import Derived.Test.YtkpagkopfdblgaaMach
import Derived.Test.YtkpagkopfdblgaaWordW
import Derived.Deep.RegionHeld3
import Derived.Deep.DrawnRows
namespace Go.Proofs.Ytkpagkopfdblgaa
set_option linter.unusedVariables false
set_option linter.unusedSimpArgs false
open Go Go.RowKit
set_option maxRecDepth 100000
attribute [local go_sem ↓] Go.wp_at_zero Go.wp_at_succ
set_option maxHeartbeats 1000000

theorem wp_named' {P : Program} {c : Code} {Q : Exit → Act → World → Prop} {a : Act} {w : World} (h : ∀ W, W = w → c.wp P Q a W) : c.wp P Q a w := h w rfl
theorem wrapI_ok (a : Int) (h0 : -9223372036854775808 ≤ a) (h1 : a < 9223372036854775808) : IntKind.i64.wrap a = a := by
  rw [IntKind.wrap_i64]
  omega
theorem wrapW_ok (a : Int) (h0 : 0 ≤ a) (h1 : a < 18446744073709551616) : IntKind.u64.wrap a = a := by
  simp [IntKind.wrap, IntKind.signed, IntKind.bits]
  omega
/-- A Stack's struct. -/
def stackOf (m : Nat) (h lk n : Int) : Array Value := #[.pointer (some ⟨m, 0, none⟩), .int .i64 h, .int .i64 lk, .int .i64 n]
def topI (n x : Int) : Int := if x % 4294967296 - 1 < n then x % 4294967296 - 1 else -1
def belowI (n x : Int) : Int := if n < x then -1 else x - 1
def nextI (x item : Int) : Int := headI item (tagN (x / 4294967296))
section
variable {w : World} {S m b N : Nat} {h lk n : Int} {l : List Int} {cc : Int} {x : Acc}
end
end Go.Proofs.Ytkpagkopfdblgaa
