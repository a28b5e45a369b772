/- What a struct or an array of integers, by value, is as a call's argument, whatever its size. -/
import Derived.Test.YtkpagkopfdblgaaBase
import Derived.Lib.SmallJoins
import Derived.ProofKit
namespace Go.Proofs.Ytkpagkopfdblgaa
set_option linter.unusedVariables false
set_option linter.unusedSimpArgs false
open Go Go.RowKit Go.Joins Go.ChangeShapes Go.WideShapes Go.Deep

/-- A value of integers of these kinds. -/
def flatV : List IntKind → List Int → List Value
  | k :: ks, n :: ns => .int k n :: flatV ks ns
  | _, _ => []
theorem has_wf {k : IntKind} {n : Int} (h : k.has n) : (Lit.int k n).wf = true := by
  unfold IntKind.has at h; simp [Lit.wf]; exact h
theorem flat_cells {P : Program} {w : World} {r : Reach} {base : Nat} : ∀ (ks : List IntKind) (ts : List TypeId) (cs : List Value), cs.length = ks.length → ts.map P.underlying = ks.map (fun k => some (.int k)) →
    (∀ (i : Nat) (v : Value), cs[i]? = some v → ∃ u, ts[i]? = some u ∧ Cell.okWide P w r base u v) → ∃ ns : List Int, ns.length = ks.length ∧ cs = flatV ks ns ∧ ∀ (i : Nat) (k : IntKind) (n : Int), ks[i]? = some k → ns[i]? = some n → (Lit.int k n).wf = true
  | [], ts, cs, hl, ht, hc => ⟨[], rfl, by simp at hl; subst hl; rfl, fun i k n h => by simp at h⟩
  | k :: ks, [], cs, hl, ht, hc => by simp at ht
  | k :: ks, t :: ts, [], hl, ht, hc => by simp at hl
  | k :: ks, t :: ts, c :: cs, hl, ht, hc => by
    simp only [List.map_cons, List.cons.injEq] at ht
    obtain ⟨ns, h1, h2, h3⟩ := flat_cells ks ts cs (by simpa using hl) ht.2 (fun i v hv => by
      obtain ⟨u, hu, ho⟩ := hc (i + 1) v (by simpa using hv)
      exact ⟨u, by simpa using hu, ho⟩)
    obtain ⟨u, hu, ho⟩ := hc 0 c (by simp)
    simp at hu
    subst hu
    have : ∃ n, c = .int k n ∧ (Lit.int k n).wf = true := by
      unfold Cell.okWide Cell.ok at ho
      rw [ht.1] at ho
      cases c <;> simp at ho
      rename_i k' n
      obtain ⟨rfl, hh⟩ := ho
      exact ⟨n, rfl, has_wf hh⟩
    obtain ⟨n, rfl, hw⟩ := this
    refine ⟨n :: ns, by simp [h1], by rw [h2]; rfl, fun i k' m hk hm => ?_⟩
    cases i with
    | zero => simp at hk hm; subst hk hm; exact hw
    | succ i => exact h3 i k' m (by simpa using hk) (by simpa using hm)
theorem open_flat {P : Program} {w : World} {r : Reach} {base : Nat} {t : TypeId} {v : Value} (ks : List IntKind) (ts : List TypeId) (hs : (match P.underlying t with | some (.struct _) | some (.array _ _) => true | _ => false) = true)
    (hts : P.cellTypes P.depth t = some ts) (hk : ts.map P.underlying = ks.map (fun k => some (.int k))) (hC : P.cellsOf t = ks.length) (hl : ts.length = ks.length) (hv : Value.okWide P w r base t v) :
    ∃ ns : List Int, ns.length = ks.length ∧ v = .agg (flatV ks ns).toArray ∧ ∀ (i : Nat) (k : IntKind) (n : Int), ks[i]? = some k → ns[i]? = some n → (Lit.int k n).wf = true := by
  have h : ∃ cs, v = .agg cs ∧ cs.size = P.cellsOf t ∧ Row.okWide P w r base t cs := by
    unfold Value.okWide at hv
    split at hs <;> simp_all
  obtain ⟨cs, rfl, hsz, ts', hts', _, hcell⟩ := h
  rw [hts] at hts'
  obtain rfl : ts = ts' := by simpa using hts'
  obtain ⟨ns, h1, h2, h3⟩ := flat_cells ks ts cs.toList (by simp [hsz, hC]) hk (fun i v hv => by
    obtain ⟨u, hu, ho⟩ := hcell i v (by simpa using hv)
    have hi : i < ts.length := by have := (List.getElem?_eq_some_iff.1 hv).1; simp [hsz, hC] at this; omega
    rw [Nat.mod_eq_of_lt hi] at hu
    exact ⟨u, hu, ho⟩)
  exact ⟨ns, h1, by rw [← h2], h3⟩
theorem open_arr2 {P : Program} {w : World} {r : Reach} {base : Nat} {t : TypeId} {v : Value} (k : IntKind) (e : TypeId) (hs : (match P.underlying t with | some (.struct _) | some (.array _ _) => true | _ => false) = true)
    (hts : P.cellTypes P.depth t = some [e, e]) (hk : P.underlying e = some (.int k)) (hC : P.cellsOf t = 2) (hv : Value.okWide P w r base t v) :
    ∃ a b : Int, v = .agg #[.int k a, .int k b] ∧ (Lit.int k a).wf = true ∧ (Lit.int k b).wf = true := by
  obtain ⟨ns, hn, rfl, hw⟩ := open_flat [k, k] [e, e] hs hts (by simp [hk]) hC rfl hv
  match ns, hn with
  | [a, b], _ => exact ⟨a, b, rfl, hw 0 k a rfl rfl, hw 1 k b rfl rfl⟩
theorem open_arr3 {P : Program} {w : World} {r : Reach} {base : Nat} {t : TypeId} {v : Value} (k : IntKind) (e : TypeId) (hs : (match P.underlying t with | some (.struct _) | some (.array _ _) => true | _ => false) = true)
    (hts : P.cellTypes P.depth t = some [e, e, e]) (hk : P.underlying e = some (.int k)) (hC : P.cellsOf t = 3) (hv : Value.okWide P w r base t v) :
    ∃ a b c : Int, v = .agg #[.int k a, .int k b, .int k c] ∧ (Lit.int k a).wf = true ∧ (Lit.int k b).wf = true ∧ (Lit.int k c).wf = true := by
  obtain ⟨ns, hn, rfl, hw⟩ := open_flat [k, k, k] [e, e, e] hs hts (by simp [hk]) hC rfl hv
  match ns, hn with
  | [a, b, c], _ => exact ⟨a, b, c, rfl, hw 0 k a rfl rfl, hw 1 k b rfl rfl, hw 2 k c rfl rfl⟩
theorem open_arr4 {P : Program} {w : World} {r : Reach} {base : Nat} {t : TypeId} {v : Value} (k : IntKind) (e : TypeId) (hs : (match P.underlying t with | some (.struct _) | some (.array _ _) => true | _ => false) = true)
    (hts : P.cellTypes P.depth t = some [e, e, e, e]) (hk : P.underlying e = some (.int k)) (hC : P.cellsOf t = 4) (hv : Value.okWide P w r base t v) :
    ∃ a b c d : Int, v = .agg #[.int k a, .int k b, .int k c, .int k d] ∧ (Lit.int k a).wf = true ∧ (Lit.int k b).wf = true ∧ (Lit.int k c).wf = true ∧ (Lit.int k d).wf = true := by
  obtain ⟨ns, hn, rfl, hw⟩ := open_flat [k, k, k, k] [e, e, e, e] hs hts (by simp [hk]) hC rfl hv
  match ns, hn with
  | [a, b, c, d], _ => exact ⟨a, b, c, d, rfl, hw 0 k a rfl rfl, hw 1 k b rfl rfl, hw 2 k c rfl rfl, hw 3 k d rfl rfl⟩
end Go.Proofs.Ytkpagkopfdblgaa
