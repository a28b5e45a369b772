/- slices.Clone, Index, Contains over ints. -/
import Derived.Test.YtaecapjicphdkaaGreatRow
import Derived.Test.YtaecapjicphdkaaGreatMem
import Derived.Lib.SliceRun
namespace Go.Proofs.YtaecapjicphdkaaGreat
set_option linter.unusedVariables false
set_option linter.unusedSimpArgs false
open Go Go.RowKit
set_option maxRecDepth 100000

theorem info_int : (Tryz.prog.info? 3).map (fun i => (i.zero, i.size, i.bytes)) = some (some (.int .i64 0), 1, 8) := by kernel_rfl
/-- ints, as values. -/
@[reducible] def ivals (zs : List Int) : List Value := zs.map (.int .i64)
theorem ivals_one (zs : List Int) : ∀ u ∈ ivals zs, u.oneCell' = true := by
  intro u hu
  obtain ⟨z, _, rfl⟩ := List.mem_map.1 hu
  rfl
theorem clone_c (v : Value) (zs : List Int) (B : Nat) (w : World) (h : Reads .i64 w v zs) (hB : B ≤ w.heap.size) (hl : zs.length ≤ 1000000) :
    Calls Tryz.prog 82 #[v] w fun e w' => ∃ v', e = .returned v' ∧ Keeps w w' ∧ Row w.heap.size 3 w' v' (ivals zs) := by
  obtain ⟨i0, hi, hz0, hz1, hz2⟩ := info_parts info_int
  have qT : ∀ (w : World) (a : Option Addr) (n c n' c' : Nat), (binOp .eql 49 (.slice a n c) (.slice none n' c')).run Tryz.prog w = .ok (.bool a.isNone) w := fun w a n c n' c' => Lib.run_eql_slice_nil w _ _ a n c n' c' Tryz.underlying49
  obtain ⟨a, cap, rfl, hr⟩ := h
  cases a with
  | none =>
    have hz : zs = [] := by
      rcases zs with _ | ⟨z, zs⟩
      · rfl
      · obtain ⟨b, off, ha, _⟩ := hr (by simp); cases ha
    subst hz
    clear hr
    go_enter Tryz.func82, Tryz.ntmps82
    go_wp2
    go_ret
    exact ⟨_, rfl, by ((repeat' (first | (with_reducible exact Keeps.refl _) | (with_reducible assumption) | (with_reducible refine Keeps.drewN ?_ _) | (with_reducible refine Keeps.drew ?_) | (with_reducible refine Keeps.alloc ?_ _) | (with_reducible refine Keeps.setCell ?_ ?_ _) | (with_reducible refine Keeps.trans ?_ (After.keeps _)) | (with_reducible refine Keeps.trans ?_ (by with_reducible assumption)) | go_size)); (first | done | fail)), Row.nil _ _ _⟩
  | some ad =>
    have hn : ∀ (j : Nat) u, (ivals zs)[j]? = some u → (w.alloc (.cells #[] 3)).cell? (ad.add j) = some u := by
      intro j u hj
      have hj2 : j < zs.length := by have := (List.getElem?_eq_some_iff.1 hj).1; simpa using this
      obtain ⟨b, off, ha, hb, hc⟩ := hr (by rintro rfl; simp at hj2)
      cases ha
      rw [show (⟨b, off, none⟩ : Addr).add j = ⟨b, off + j, none⟩ by unfold Addr.add; split <;> simp_all]
      simp only [ivals, List.getElem?_map, List.getElem?_eq_getElem hj2, Option.map_some, Option.some.injEq] at hj
      rw [((Keeps.refl w).alloc _).cell hb, hc j zs[j] (List.getElem?_eq_getElem hj2), hj]
    have HN := Lib.hid hn
    clear hn hr
    have hown : (w.alloc (.cells #[] 3)).ownsRow w.heap.size 3 1 (.slice (some ⟨w.heap.size, 0, none⟩) 0 0) 0 [] :=
      ⟨rfl, .inr ⟨w.heap.size, 0, #[], rfl, Nat.le_refl _, heap_alloc_new w _, Nat.le_refl _, by simp, rfl, rfl⟩⟩
    have HO := Lib.hid hown
    clear hown
    go_enter Tryz.func82, Tryz.ntmps82
    go_wp2_with (at_builtin; refine wpList_append_own _ rfl (.tmp 5) (.tmp 6) 49 rfl w.heap.size 3 i0 _ 1 8 Tryz.underlying49 hi hz0 hz1 hz2 rfl (by decide) _ _ _ rfl HO.out ad zs.length cap (ivals zs) rfl (by simp) HN.out (ivals_one zs) (by unfold maxLen; omega) (by omega) (by simp) ?_; intro v1 w1 hown1 hgrow1 hnil1)
    go_ret
    simp only [Nat.zero_add, List.nil_append] at hown1
    have hK : Keeps (w.alloc (.cells #[] 3)) w1 ∨ True := .inr trivial
    have hU := Upd.grown hgrow1
    have hkk : Keeps w w1 := ((Keeps.refl w).alloc (.cells #[] 3)).upd hU (by simp [Act.eval])
    exact ⟨v1, rfl, hkk, Row.of hown1 (by simp)⟩
/-- Is it among them? -/
theorem index_c (v : Value) (zs : List Int) (z : Int) (w : World) (h : Reads .i64 w v zs) (hl : zs.length ≤ 1000000) :
    Calls Tryz.prog 122 #[v, .int .i64 z] w fun e w' => ∃ r : Int, e = .returned (.int .i64 r) ∧ decide (0 ≤ r) = decide (z ∈ zs) ∧ w = w' := by
  obtain ⟨ad, cap, rfl, hr⟩ := h
  have HR := Lib.hid hr
  clear hr
  go_enter Tryz.func122, Tryz.ntmps122
  go_wp2
  go_loop [8] (fun i => ∃ k : Nat, k ≤ zs.length ∧ i = .int .i64 k ∧ Hid (∀ j, j < k → zs[j]? ≠ some z)) (fun i => zs.length - (intOf i).toNat)
  case atStart => exact ⟨0, by omega, rfl, Lib.hid (fun j hj => by omega)⟩
  case round =>
    obtain ⟨k, hk, rfl, hno⟩ := hrel
    by_cases hlt : k < zs.length
    · obtain ⟨rb, off, rfl, hb, hc⟩ := HR.out (by rintro rfl; simp at hlt)
      have c1 := hc k zs[k] (List.getElem?_eq_getElem hlt)
      clear hc
      obtain ⟨y, hy⟩ : ∃ y, zs[k] = y := ⟨_, rfl⟩
      have HY := Lib.hid hy
      rw [hy] at c1
      clear hy
      by_cases hz : z = y
      · have q : (z == y) = true := by simp [hz]
        have HZ := Lib.hid hz
        clear hz
        go_wp2
        go_ret
        refine ⟨k, rfl, ?_, rfl⟩
        have hm : z ∈ zs := by rw [HZ.out, ← HY.out]; exact List.getElem_mem hlt
        simp [hm]
      · have q : (z == y) = false := by simp [hz]
        have HZ := Lib.hid hz
        clear hz
        go_wp2
        go_round
        case rel =>
          refine ⟨k + 1, by omega, by go_num, Lib.hid (fun j hj => ?_)⟩
          rcases Nat.lt_or_ge j k with h1 | h1
          · exact hno.out j h1
          · obtain rfl : j = k := by omega
            rw [List.getElem?_eq_getElem hlt, HY.out]
            intro e
            exact HZ.out (by cases e; rfl)
        case measure => simp [intOf]; omega
    · obtain rfl : k = zs.length := by omega
      go_wp2
      go_ret
      refine ⟨-1, rfl, ?_, rfl⟩
      have hm : ¬ z ∈ zs := by
        intro hm
        obtain ⟨j, hj, e⟩ := List.mem_iff_getElem.1 hm
        exact hno.out j hj (by rw [List.getElem?_eq_getElem hj, e])
      simp [hm]
theorem contains_c (v : Value) (zs : List Int) (z : Int) (w : World) (h : Reads .i64 w v zs) (hl : zs.length ≤ 1000000) :
    Calls Tryz.prog 81 #[v, .int .i64 z] w fun e w' => e = .returned (.bool (decide (z ∈ zs))) ∧ w = w' := by
  have H := Lib.hid h
  clear h
  go_enter Tryz.func81, Tryz.ntmps81
  go_wp2_with (go_at_call 122; refine (index_c v zs z _ H.out hl).mono ?_; rintro e w' ⟨r, rfl, hr, rfl⟩)
  go_ret
  exact ⟨by rw [← hr]; rfl, rfl⟩
end Go.Proofs.YtaecapjicphdkaaGreat
