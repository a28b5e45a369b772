/- The law CellsPlay, walked. -/
import Derived.Test.YtkpagkopfdblgaaCellsDL
import Derived.Test.YtkpagkopfdblgaaRMem
import Derived.Deep.RegionHeld3
namespace Go.Proofs.Ytkpagkopfdblgaa
set_option linter.unusedVariables false
set_option linter.unusedSimpArgs false
open Go Go.RowKit
set_option maxRecDepth 100000

/-- The cells of an access. -/
def accOf (x : Acc) : Array Value := #[.int .i64 x.kind, .int .i64 x.at_, .int .u64 x.old, .int .u64 x.new, .bool x.ok]
/-- All that the law's round knows. -/
structure Play (w0 w : World) (g b r rb la n : Nat) (l : List Int) (c : Int) (x : Acc) : Prop where
  M : Mem w g b n l c x
  R : RMem w r rb n l c
  LA : Has w la (accOf x) 56
  ne : b ≠ rb
  K : Keeps w0 w
  h1 : w0.heap.size ≤ g
  h2 : w0.heap.size ≤ b
  h3 : w0.heap.size ≤ r
  h4 : w0.heap.size ≤ rb
  h5 : w0.heap.size ≤ la
section
variable {w0 w w' : World} {g b r rb la n : Nat} {l : List Int} {c : Int} {x : Acc}
theorem Play.keeps (H : Play w0 w g b r rb la n l c x) (k : Keeps w w') : Play w0 w' g b r rb la n l c x := ⟨H.M.keeps k, H.R.keeps k, H.LA.keeps k, H.ne, H.K.trans k, H.h1, H.h2, H.h3, H.h4, H.h5⟩
theorem Play.nes (H : Play w0 w g b r rb la n l c x) : (g ≠ r ∧ g ≠ rb ∧ g ≠ la) ∧ (b ≠ r ∧ b ≠ la) ∧ r ≠ la ∧ rb ≠ la :=
  ⟨⟨H.M.hg.ne H.R.hg (by decide), H.M.hg.ne H.R.hb (by decide), H.M.hg.ne H.LA (by decide)⟩, ⟨H.M.hb.ne H.R.hg (by decide), H.M.hb.ne H.LA (by decide)⟩, H.R.hg.ne H.LA (by decide), H.R.hb.ne H.LA (by decide)⟩
/-- The program's memory has turned. -/
theorem Play.past1 {l' : List Int} {c' : Int} {x' : Acc} (H : Play w0 w g b r rb la n l c x) (hu : Upd [g, b] w w') (M1 : Mem w' g b n l' c' x') : Mem w' g b n l' c' x' ∧ RMem w' r rb n l c ∧ Has w' la (accOf x) 56 ∧ Keeps w0 w' := by
  obtain ⟨⟨a1, a2, a3⟩, ⟨b1, b2⟩, _, _⟩ := H.nes
  exact ⟨M1, H.R.upd hu (by simp; exact ⟨a1.symm, b1.symm⟩) (by simp; exact ⟨a2.symm, H.ne.symm⟩), H.LA.upd hu (by simp; exact ⟨a3.symm, b2.symm⟩), H.K.upd2 hu H.h1 H.h2⟩
end
theorem has_fresh {w : World} {g D : Nat} {cs : Array Value} {t : TypeId} (h : Has w g cs t) (hD : w.heap.size ≤ D) : D ≠ g := fun e => by have := h.lt; omega

end Go.Proofs.Ytkpagkopfdblgaa
