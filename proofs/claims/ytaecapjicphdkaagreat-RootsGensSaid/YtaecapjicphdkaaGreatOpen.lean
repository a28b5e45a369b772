/- What a struct of integers, by value, is as a call's argument. -/
import Derived.Test.YtaecapjicphdkaaGreatBase
import Derived.Lib.SmallJoins
import Derived.ProofKit
namespace Go.Proofs.YtaecapjicphdkaaGreat
set_option linter.unusedVariables false
set_option linter.unusedSimpArgs false
open Go Go.RowKit Go.Joins Go.ChangeShapes Go.WideShapes Go.Deep

section
variable {H : Type} {enc : TypeId × Value → H} {P : Program} {w : World} {base : Nat} {spare : Nat → Bool} {held : Bool}
theorem trod_i64 {t : TypeId} {n : Nat} {v : Value} {x : DataW H × List MemPlace} (ht : P.underlying t = some (.int .i64)) (h : DataW.trod enc P w base spare held n t [v] = some x) :
    ∃ a : Int, v = .int .i64 a ∧ (Lit.int .i64 a).wf = true := by
  obtain ⟨a, e, _, wa⟩ := DataW.trod_int ht h
  exact ⟨a, by simpa using e, wa⟩
theorem open_ints2 {r : Reach} {b0 : Nat} {t : TypeId} {f0 f1 : Field} {v : Value} {d : DataW H} {p : List MemPlace} (hs : P.underlying t = some (.struct #[f0, f1])) (hone : oneCellFields P #[f0, f1] = true) (hC : P.cellsOf t = 2)
    (t0 : P.underlying f0.type = some (.int .i64)) (t1 : P.underlying f1.type = some (.int .i64))
    (hv : Value.okWide P w r b0 t v) (h : DataW.Trod enc P w base spare held t v d p) :
    ∃ a b : Int, v = .agg #[.int .i64 a, .int .i64 b] ∧ (Lit.int .i64 a).wf = true ∧ (Lit.int .i64 b).wf = true := by
  obtain ⟨v0, v1, y0, y1, n, rfl, _, _, h0, h1⟩ := open_agg2 hs hone hC hv h
  obtain ⟨a, rfl, wa⟩ := trod_i64 t0 h0
  obtain ⟨b, rfl, wb⟩ := trod_i64 t1 h1
  exact ⟨a, b, rfl, wa, wb⟩
theorem open_ints4 {r : Reach} {b0 : Nat} {t : TypeId} {f0 f1 f2 f3 : Field} {v : Value} {d : DataW H} {p : List MemPlace} (hs : P.underlying t = some (.struct #[f0, f1, f2, f3])) (hone : oneCellFields P #[f0, f1, f2, f3] = true) (hC : P.cellsOf t = 4)
    (t0 : P.underlying f0.type = some (.int .i64)) (t1 : P.underlying f1.type = some (.int .i64)) (t2 : P.underlying f2.type = some (.int .i64)) (t3 : P.underlying f3.type = some (.int .i64))
    (hv : Value.okWide P w r b0 t v) (h : DataW.Trod enc P w base spare held t v d p) :
    ∃ a b c e : Int, v = .agg #[.int .i64 a, .int .i64 b, .int .i64 c, .int .i64 e] ∧ (Lit.int .i64 a).wf = true ∧ (Lit.int .i64 b).wf = true ∧ (Lit.int .i64 c).wf = true ∧ (Lit.int .i64 e).wf = true := by
  obtain ⟨v0, v1, v2, v3, y0, y1, y2, y3, n, rfl, _, _, h0, h1, h2, h3⟩ := open_agg4 hs hone hC hv h
  obtain ⟨a, rfl, wa⟩ := trod_i64 t0 h0
  obtain ⟨b, rfl, wb⟩ := trod_i64 t1 h1
  obtain ⟨c, rfl, wc⟩ := trod_i64 t2 h2
  obtain ⟨e, rfl, we⟩ := trod_i64 t3 h3
  exact ⟨a, b, c, e, rfl, wa, wb, wc, we⟩
theorem open_ints6 {r : Reach} {b0 : Nat} {t : TypeId} {f0 f1 f2 f3 f4 f5 : Field} {v : Value} {d : DataW H} {p : List MemPlace} (hs : P.underlying t = some (.struct #[f0, f1, f2, f3, f4, f5])) (hone : oneCellFields P #[f0, f1, f2, f3, f4, f5] = true) (hC : P.cellsOf t = 6)
    (t0 : P.underlying f0.type = some (.int .i64)) (t1 : P.underlying f1.type = some (.int .i64)) (t2 : P.underlying f2.type = some (.int .i64)) (t3 : P.underlying f3.type = some (.int .i64)) (t4 : P.underlying f4.type = some (.int .i64)) (t5 : P.underlying f5.type = some (.int .i64))
    (hv : Value.okWide P w r b0 t v) (h : DataW.Trod enc P w base spare held t v d p) :
    ∃ a b c e f g : Int, v = .agg #[.int .i64 a, .int .i64 b, .int .i64 c, .int .i64 e, .int .i64 f, .int .i64 g] ∧ (Lit.int .i64 a).wf = true ∧ (Lit.int .i64 b).wf = true ∧ (Lit.int .i64 c).wf = true ∧ (Lit.int .i64 e).wf = true ∧ (Lit.int .i64 f).wf = true ∧ (Lit.int .i64 g).wf = true := by
  obtain ⟨cs, rfl, hsz⟩ := okWide_struct hs hv
  obtain ⟨l⟩ := cs
  match l, hsz.trans hC with
  | [c0, c1, c2, c3, c4, c5], _ =>
    obtain ⟨fuel, hf⟩ := h
    obtain ⟨xs, n, _, hx, _, hlen, hg⟩ := DataW.trod_struct hs hf
    obtain ⟨o0, k0⟩ := hone_of hone 0 f0 rfl
    obtain ⟨o1, k1⟩ := hone_of hone 1 f1 rfl
    obtain ⟨o2, k2⟩ := hone_of hone 2 f2 rfl
    obtain ⟨o3, k3⟩ := hone_of hone 3 f3 rfl
    obtain ⟨o4, k4⟩ := hone_of hone 4 f4 rfl
    obtain ⟨o5, k5⟩ := hone_of hone 5 f5 rfl
    match xs, hlen with
    | [y0, y1, y2, y3, y4, y5], _ =>
      obtain ⟨a, rfl, wa⟩ := trod_i64 t0 (x := y0) (n := n) (enc := enc) (w := w) (by simpa [Value.cells, o0, k0] using hg 0 f0 rfl)
      obtain ⟨b, rfl, wb⟩ := trod_i64 t1 (x := y1) (n := n) (enc := enc) (w := w) (by simpa [Value.cells, o1, k1] using hg 1 f1 rfl)
      obtain ⟨c, rfl, wc⟩ := trod_i64 t2 (x := y2) (n := n) (enc := enc) (w := w) (by simpa [Value.cells, o2, k2] using hg 2 f2 rfl)
      obtain ⟨e, rfl, we⟩ := trod_i64 t3 (x := y3) (n := n) (enc := enc) (w := w) (by simpa [Value.cells, o3, k3] using hg 3 f3 rfl)
      obtain ⟨f, rfl, wf⟩ := trod_i64 t4 (x := y4) (n := n) (enc := enc) (w := w) (by simpa [Value.cells, o4, k4] using hg 4 f4 rfl)
      obtain ⟨g, rfl, wg⟩ := trod_i64 t5 (x := y5) (n := n) (enc := enc) (w := w) (by simpa [Value.cells, o5, k5] using hg 5 f5 rfl)
      exact ⟨a, b, c, e, f, g, rfl, wa, wb, wc, we, wf, wg⟩
end
end Go.Proofs.YtaecapjicphdkaaGreat
