/- slices.Clone, Index, Contains over ints. -/
import Derived.Test.YtaecapjicphdkaaRow
import Derived.Test.YtaecapjicphdkaaMem
import Derived.Lib.SliceRun
namespace Go.Proofs.Ytaecapjicphdkaa
set_option linter.unusedVariables false
set_option linter.unusedSimpArgs false
open Go Go.RowKit
set_option maxRecDepth 100000

theorem info_int : (Try.prog.info? 3).map (fun i => (i.zero, i.size, i.bytes)) = some (some (.int .i64 0), 1, 8) := by kernel_rfl
/-- ints, as values. -/
@[reducible] def ivals (zs : List Int) : List Value := zs.map (.int .i64)
theorem ivals_one (zs : List Int) : ∀ u ∈ ivals zs, u.oneCell' = true := by
  intro u hu
  obtain ⟨z, _, rfl⟩ := List.mem_map.1 hu
  rfl
theorem clone_c (v : Value) (zs : List Int) (B : Nat) (w : World) (h : Reads .i64 w v zs) (hB : B ≤ w.heap.size) (hl : zs.length ≤ 1000000) :
    Calls Try.prog 78 #[v] w fun e w' => ∃ v', e = .returned v' ∧ Keeps w w' ∧ Row w.heap.size 3 w' v' (ivals zs) := by
  obtain ⟨i0, hi, hz0, hz1, hz2⟩ := info_parts info_int
  have qT : ∀ (w : World) (a : Option Addr) (n c n' c' : Nat), (binOp .eql 22 (.slice a n c) (.slice none n' c')).run Try.prog w = .ok (.bool a.isNone) w := fun w a n c n' c' => Lib.run_eql_slice_nil w _ _ a n c n' c' Try.underlying22
  obtain ⟨a, cap, rfl, hr⟩ := h
  cases a with
  | none =>
    have hz : zs = [] := by
      rcases zs with _ | ⟨z, zs⟩
      · rfl
      · obtain ⟨b, off, ha, _⟩ := hr (by simp); cases ha
    subst hz
    clear hr
    go_enter Try.func78, Try.ntmps78
    go_wp2
    go_ret
    exact ⟨_, rfl, by ((repeat' (first | (with_reducible exact Keeps.refl _) | (with_reducible assumption) | (with_reducible refine Keeps.drewN ?_ _) | (with_reducible refine Keeps.drew ?_) | (with_reducible refine Keeps.alloc ?_ _) | (with_reducible refine Keeps.setCell ?_ ?_ _) | (with_reducible refine Keeps.trans ?_ (After.keeps _)) | (with_reducible refine Keeps.trans ?_ (by with_reducible assumption)) | go_size)); (first | done | fail)), Row.nil _ _ _⟩
  | some ad =>
    have hn : ∀ (j : Nat) u, (ivals zs)[j]? = some u → (w.alloc (.cells #[] 3)).cell? (ad.add j) = some u := by
      intro j u hj
      have hj2 : j < zs.length := by have := (List.getElem?_eq_some_iff.1 hj).1; simpa using this
      obtain ⟨b, off, ha, hb, hc⟩ := hr (by rintro rfl; simp at hj2)
      cases ha
      rw [show (⟨b, off, none⟩ : Addr).add j = ⟨b, off + j, none⟩ by unfold Addr.add; split <;> simp_all]
      simp only [ivals, List.getElem?_map, List.getElem?_eq_getElem hj2, Option.map_some, Option.some.injEq] at hj
      rw [((Keeps.refl w).alloc _).cell hb, hc j zs[j] (List.getElem?_eq_getElem hj2), hj]
    have HN := Lib.hid hn
    clear hn hr
    have hown : (w.alloc (.cells #[] 3)).ownsRow w.heap.size 3 1 (.slice (some ⟨w.heap.size, 0, none⟩) 0 0) 0 [] :=
      ⟨rfl, .inr ⟨w.heap.size, 0, #[], rfl, Nat.le_refl _, heap_alloc_new w _, Nat.le_refl _, by simp, rfl, rfl⟩⟩
    have HO := Lib.hid hown
    clear hown
    go_enter Try.func78, Try.ntmps78
    go_wp2_with (at_builtin; refine wpList_append_own _ rfl (.tmp 5) (.tmp 6) 22 rfl w.heap.size 3 i0 _ 1 8 Try.underlying22 hi hz0 hz1 hz2 rfl (by decide) _ _ _ rfl HO.out ad zs.length cap (ivals zs) rfl (by simp) HN.out (ivals_one zs) (by unfold maxLen; omega) (by omega) (by simp) ?_; intro v1 w1 hown1 hgrow1 hnil1)
    go_ret
    simp only [Nat.zero_add, List.nil_append] at hown1
    have hK : Keeps (w.alloc (.cells #[] 3)) w1 ∨ True := .inr trivial
    have hU := Upd.grown hgrow1
    have hkk : Keeps w w1 := ((Keeps.refl w).alloc (.cells #[] 3)).upd hU (by simp [Act.eval])
    exact ⟨v1, rfl, hkk, Row.of hown1 (by simp)⟩
end Go.Proofs.Ytaecapjicphdkaa
