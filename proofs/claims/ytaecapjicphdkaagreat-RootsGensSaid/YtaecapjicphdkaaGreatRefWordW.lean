/- What the document's answer on words computes: each function walked once. -/
import Derived.Test.YtaecapjicphdkaaGreatWordW
import Derived.Test.YtaecapjicphdkaaGreatRef1W
namespace Go.Proofs.YtaecapjicphdkaaGreat
set_option linter.unusedVariables false
set_option linter.unusedSimpArgs false
open Go Go.RowKit
set_option maxRecDepth 100000

theorem rin_c (n a b : Int) (w : World) : Calls Tryz.prog 131 #[.int .i64 n, .int .i64 a, .int .i64 b] w fun e w' => e = .returned (.bool (withinB n a b)) ∧ w = w' := by
  go_enter Tryz.func131, Tryz.ntmps131
  go_wp2
  all_goals go_ret
  · have h : decide (a ≤ n) = true := decide_eq_true (by assumption)
    exact ⟨by unfold withinB; rw [h]; rfl, rfl⟩
  · have h : decide (a ≤ n) = false := decide_eq_false (by omega)
    exact ⟨by unfold withinB; rw [h]; rfl, rfl⟩

theorem rputHead_c (i t : Int) (w : World) : Calls Tryz.prog 129 #[.agg #[.int .i64 i, .int .i64 t]] w fun e w' => e = .returned (.tuple #[.int .u64 (headI i t), .bool (headB i t)]) ∧ Keeps w w' := by
  cases h : headB i t with
  | false =>
    have e2 : headI i t = 0 := by unfold headI; rw [h]; rfl
    have h2 : ¬ ((-1 ≤ i ∧ i ≤ 4294967294) ∧ 0 ≤ t ∧ t ≤ 4294967295) := by rw [← headB_true, h]; simp
    rw [e2]
    clear e2 h
    go_enter Tryz.func129, Tryz.ntmps129
    go_wp2
    all_goals first | (exfalso; omega) | (go_ret2; exact ⟨rfl, by ((repeat' (first | (with_reducible exact Keeps.refl _) | (with_reducible assumption) | (with_reducible refine Keeps.drewN ?_ _) | (with_reducible refine Keeps.drew ?_) | (with_reducible refine Keeps.alloc ?_ _) | (with_reducible refine Keeps.setCell ?_ ?_ _) | (with_reducible refine Keeps.trans ?_ (After.keeps _)) | (with_reducible refine Keeps.trans ?_ (by with_reducible assumption)) | go_size)); (first | done | fail))⟩)
  | true =>
    have e2 : headI i t = t * 4294967296 + (i + 1) := by unfold headI; rw [h]; rfl
    obtain ⟨⟨b1, b2⟩, b3, b4⟩ := headB_true.1 h
    rw [e2]
    clear e2 h
    have b5 : i < 4294967295 := by omega
    go_enter Tryz.func129, Tryz.ntmps129
    go_wp2
    go_ret2
    exact ⟨rfl, by ((repeat' (first | (with_reducible exact Keeps.refl _) | (with_reducible assumption) | (with_reducible refine Keeps.drewN ?_ _) | (with_reducible refine Keeps.drew ?_) | (with_reducible refine Keeps.alloc ?_ _) | (with_reducible refine Keeps.setCell ?_ ?_ _) | (with_reducible refine Keeps.trans ?_ (After.keeps _)) | (with_reducible refine Keeps.trans ?_ (by with_reducible assumption)) | go_size)); (first | done | fail))⟩

theorem rgetHead_c (x : Int) (w : World) (h0 : 0 ≤ x) (h1 : x < 18446744073709551616) : Calls Tryz.prog 113 #[.int .u64 x] w fun e w' => e = .returned (.agg #[.int .i64 (x % 4294967296 - 1), .int .i64 (x / 4294967296)]) ∧ Keeps w w' := by
  have b1 : 0 ≤ x % 4294967296 ∧ x % 4294967296 < 4294967296 := by omega
  have b2 : 0 ≤ x / 4294967296 ∧ x / 4294967296 < 4294967296 := by omega
  obtain ⟨b3, b4⟩ := b1
  obtain ⟨b5, b6⟩ := b2
  go_enter Tryz.func113, Tryz.ntmps113
  go_wp2
  go_returns
  exact ⟨rfl, by ((repeat' (first | (with_reducible exact Keeps.refl _) | (with_reducible assumption) | (with_reducible refine Keeps.drewN ?_ _) | (with_reducible refine Keeps.drew ?_) | (with_reducible refine Keeps.alloc ?_ _) | (with_reducible refine Keeps.setCell ?_ ?_ _) | (with_reducible refine Keeps.trans ?_ (After.keeps _)) | (with_reducible refine Keeps.trans ?_ (by with_reducible assumption)) | go_size)); (first | done | fail))⟩

theorem rnext_c (i t x : Int) (w : World) : Calls Tryz.prog 132 #[.agg #[.int .i64 i, .int .i64 t], .int .i64 x] w fun e w' => e = .returned (.agg #[.int .i64 x, .int .i64 (tagN t)]) ∧ Keeps w w' := by
  by_cases h : 0 ≤ t ∧ t ≤ 4294967294
  · have e : tagN t = t + 1 := by unfold tagN; rw [if_pos h]
    rw [e]
    obtain ⟨b1, b2⟩ := h
    have b3 : t < 4294967295 := by omega
    clear e
    go_enter Tryz.func132, Tryz.ntmps132
    go_wp2
    go_returns
    exact ⟨rfl, by ((repeat' (first | (with_reducible exact Keeps.refl _) | (with_reducible assumption) | (with_reducible refine Keeps.drewN ?_ _) | (with_reducible refine Keeps.drew ?_) | (with_reducible refine Keeps.alloc ?_ _) | (with_reducible refine Keeps.setCell ?_ ?_ _) | (with_reducible refine Keeps.trans ?_ (After.keeps _)) | (with_reducible refine Keeps.trans ?_ (by with_reducible assumption)) | go_size)); (first | done | fail))⟩
  · have e : tagN t = 0 := by unfold tagN; rw [if_neg h]
    rw [e]
    clear e
    go_enter Tryz.func132, Tryz.ntmps132
    go_wp2
    all_goals first | (exfalso; omega) | (go_returns; exact ⟨rfl, by ((repeat' (first | (with_reducible exact Keeps.refl _) | (with_reducible assumption) | (with_reducible refine Keeps.drewN ?_ _) | (with_reducible refine Keeps.drew ?_) | (with_reducible refine Keeps.alloc ?_ _) | (with_reducible refine Keeps.setCell ?_ ?_ _) | (with_reducible refine Keeps.trans ?_ (After.keeps _)) | (with_reducible refine Keeps.trans ?_ (by with_reducible assumption)) | go_size)); (first | done | fail))⟩)

theorem rputRoot_c (g m c o : Int) (w : World) : Calls Tryz.prog 103 #[.agg #[.int .i64 g, .int .i64 m, .int .i64 c, .int .i64 o]] w fun e w' => e = .returned (.tuple #[.int .u64 (rootI g m c o), .bool (rootB g m c o)]) ∧ Keeps w w' := by
  cases h1 : withinB g 0 4294967295 with
  | false =>
    have e : rootB g m c o = false := by unfold rootB; rw [h1]; rfl
    have e2 : rootI g m c o = 0 := by unfold rootI; rw [e]; rfl
    rw [e, e2]
    have H1 := Lib.hid h1
    clear h1 e e2
    go_enter Tryz.func103, Tryz.ntmps103
    go_wp2_with (go_at_call 131; refine (rin_c _ _ _ _).mono ?_; rintro e w' ⟨rfl, rfl⟩; rw [H1.out])
    go_ret2
    exact ⟨rfl, by ((repeat' (first | (with_reducible exact Keeps.refl _) | (with_reducible assumption) | (with_reducible refine Keeps.drewN ?_ _) | (with_reducible refine Keeps.drew ?_) | (with_reducible refine Keeps.alloc ?_ _) | (with_reducible refine Keeps.setCell ?_ ?_ _) | (with_reducible refine Keeps.trans ?_ (After.keeps _)) | (with_reducible refine Keeps.trans ?_ (by with_reducible assumption)) | go_size)); (first | done | fail))⟩
  | true =>
    have H1 := Lib.hid h1
    cases h2 : withinB m 0 4097 with
    | false =>
      have e : rootB g m c o = false := by unfold rootB; rw [h1, h2]; rfl
      have e2 : rootI g m c o = 0 := by unfold rootI; rw [e]; rfl
      rw [e, e2]
      have H2 := Lib.hid h2
      clear h1 h2 e e2
      go_enter Tryz.func103, Tryz.ntmps103
      go_wp2_with (go_at_call 131; refine (rin_c _ _ _ _).mono ?_; rintro e w' ⟨rfl, rfl⟩; first | rw [H1.out] | rw [H2.out])
      go_ret2
      exact ⟨rfl, by ((repeat' (first | (with_reducible exact Keeps.refl _) | (with_reducible assumption) | (with_reducible refine Keeps.drewN ?_ _) | (with_reducible refine Keeps.drew ?_) | (with_reducible refine Keeps.alloc ?_ _) | (with_reducible refine Keeps.setCell ?_ ?_ _) | (with_reducible refine Keeps.trans ?_ (After.keeps _)) | (with_reducible refine Keeps.trans ?_ (by with_reducible assumption)) | go_size)); (first | done | fail))⟩
    | true =>
      have H2 := Lib.hid h2
      cases h3 : withinB c 0 3 with
      | false =>
        have e : rootB g m c o = false := by unfold rootB; rw [h1, h2, h3]; rfl
        have e2 : rootI g m c o = 0 := by unfold rootI; rw [e]; rfl
        rw [e, e2]
        have H3 := Lib.hid h3
        clear h1 h2 h3 e e2
        go_enter Tryz.func103, Tryz.ntmps103
        go_wp2_with (go_at_call 131; refine (rin_c _ _ _ _).mono ?_; rintro e w' ⟨rfl, rfl⟩; first | rw [H1.out] | rw [H2.out] | rw [H3.out])
        go_ret2
        exact ⟨rfl, by ((repeat' (first | (with_reducible exact Keeps.refl _) | (with_reducible assumption) | (with_reducible refine Keeps.drewN ?_ _) | (with_reducible refine Keeps.drew ?_) | (with_reducible refine Keeps.alloc ?_ _) | (with_reducible refine Keeps.setCell ?_ ?_ _) | (with_reducible refine Keeps.trans ?_ (After.keeps _)) | (with_reducible refine Keeps.trans ?_ (by with_reducible assumption)) | go_size)); (first | done | fail))⟩
      | true =>
        have H3 := Lib.hid h3
        cases h4 : withinB o 0 1024 with
        | false =>
          have e : rootB g m c o = false := by unfold rootB; rw [h1, h2, h3, h4]; rfl
          have e2 : rootI g m c o = 0 := by unfold rootI; rw [e]; rfl
          rw [e, e2]
          have H4 := Lib.hid h4
          clear h1 h2 h3 h4 e e2
          go_enter Tryz.func103, Tryz.ntmps103
          go_wp2_with (go_at_call 131; refine (rin_c _ _ _ _).mono ?_; rintro e w' ⟨rfl, rfl⟩; first | rw [H1.out] | rw [H2.out] | rw [H3.out] | rw [H4.out])
          go_ret2
          exact ⟨rfl, by ((repeat' (first | (with_reducible exact Keeps.refl _) | (with_reducible assumption) | (with_reducible refine Keeps.drewN ?_ _) | (with_reducible refine Keeps.drew ?_) | (with_reducible refine Keeps.alloc ?_ _) | (with_reducible refine Keeps.setCell ?_ ?_ _) | (with_reducible refine Keeps.trans ?_ (After.keeps _)) | (with_reducible refine Keeps.trans ?_ (by with_reducible assumption)) | go_size)); (first | done | fail))⟩
        | true =>
          have H4 := Lib.hid h4
          have e : rootB g m c o = true := by unfold rootB; rw [h1, h2, h3, h4]; rfl
          have e2 : rootI g m c o = g * 4294967296 + m * 65536 + c * 4096 + o := by unfold rootI; rw [e]; rfl
          rw [e, e2]
          obtain ⟨a1, a2⟩ := withinB_true.1 h1
          obtain ⟨a3, a4⟩ := withinB_true.1 h2
          obtain ⟨a5, a6⟩ := withinB_true.1 h3
          obtain ⟨a7, a8⟩ := withinB_true.1 h4
          clear h1 h2 h3 h4 e e2
          go_enter Tryz.func103, Tryz.ntmps103
          go_wp2_with (go_at_call 131; refine (rin_c _ _ _ _).mono ?_; rintro e w' ⟨rfl, rfl⟩; first | rw [H1.out] | rw [H2.out] | rw [H3.out] | rw [H4.out])
          go_ret2
          exact ⟨rfl, by ((repeat' (first | (with_reducible exact Keeps.refl _) | (with_reducible assumption) | (with_reducible refine Keeps.drewN ?_ _) | (with_reducible refine Keeps.drew ?_) | (with_reducible refine Keeps.alloc ?_ _) | (with_reducible refine Keeps.setCell ?_ ?_ _) | (with_reducible refine Keeps.trans ?_ (After.keeps _)) | (with_reducible refine Keeps.trans ?_ (by with_reducible assumption)) | go_size)); (first | done | fail))⟩

theorem rgetRoot_c (x : Int) (w : World) (h0 : 0 ≤ x) (h1 : x < 18446744073709551616) : Calls Tryz.prog 99 #[.int .u64 x] w fun e w' => e = .returned (.agg #[.int .i64 (x / 4294967296), .int .i64 (x / 65536 % 65536), .int .i64 (x / 4096 % 16), .int .i64 (x % 4096)]) ∧ Keeps w w' := by
  have b1 : 0 ≤ x / 4294967296 ∧ x / 4294967296 < 4294967296 := by omega
  obtain ⟨b3, b4⟩ := b1
  go_enter Tryz.func99, Tryz.ntmps99
  go_wp2
  go_returns
  exact ⟨rfl, by ((repeat' (first | (with_reducible exact Keeps.refl _) | (with_reducible assumption) | (with_reducible refine Keeps.drewN ?_ _) | (with_reducible refine Keeps.drew ?_) | (with_reducible refine Keeps.alloc ?_ _) | (with_reducible refine Keeps.setCell ?_ ?_ _) | (with_reducible refine Keeps.trans ?_ (After.keeps _)) | (with_reducible refine Keeps.trans ?_ (by with_reducible assumption)) | go_size)); (first | done | fail))⟩

theorem rlive_c (g m c o x : Int) (w : World) : Calls Tryz.prog 105 #[.agg #[.int .i64 g, .int .i64 m, .int .i64 c, .int .i64 o], .int .i64 x] w fun e w' => e = .returned (.bool (liveB g m x)) ∧ Keeps w w' := by
  go_enter Tryz.func105, Tryz.ntmps105
  go_wp2
  all_goals go_ret
  · have h : decide (1 ≤ m) = true := decide_eq_true (by assumption)
    exact ⟨by unfold liveB; rw [h]; rfl, by ((repeat' (first | (with_reducible exact Keeps.refl _) | (with_reducible assumption) | (with_reducible refine Keeps.drewN ?_ _) | (with_reducible refine Keeps.drew ?_) | (with_reducible refine Keeps.alloc ?_ _) | (with_reducible refine Keeps.setCell ?_ ?_ _) | (with_reducible refine Keeps.trans ?_ (After.keeps _)) | (with_reducible refine Keeps.trans ?_ (by with_reducible assumption)) | go_size)); (first | done | fail))⟩
  · have h : decide (1 ≤ m) = false := decide_eq_false (by omega)
    exact ⟨by unfold liveB; rw [h]; rfl, by ((repeat' (first | (with_reducible exact Keeps.refl _) | (with_reducible assumption) | (with_reducible refine Keeps.drewN ?_ _) | (with_reducible refine Keeps.drew ?_) | (with_reducible refine Keeps.alloc ?_ _) | (with_reducible refine Keeps.setCell ?_ ?_ _) | (with_reducible refine Keeps.trans ?_ (After.keeps _)) | (with_reducible refine Keeps.trans ?_ (by with_reducible assumption)) | go_size)); (first | done | fail))⟩

theorem rchunk_c (g m c o : Int) (w : World) (h1 : m ≤ 9223372036854775807) : Calls Tryz.prog 107 #[.agg #[.int .i64 g, .int .i64 m, .int .i64 c, .int .i64 o]] w fun e w' => e = .returned (.int .i64 (chunkI m)) ∧ Keeps w w' := by
  by_cases h : m < 2
  · have e : chunkI m = -1 := by unfold chunkI; rw [if_pos h]
    rw [e]
    clear e
    go_enter Tryz.func107, Tryz.ntmps107
    go_wp2
    go_ret
    exact ⟨rfl, by ((repeat' (first | (with_reducible exact Keeps.refl _) | (with_reducible assumption) | (with_reducible refine Keeps.drewN ?_ _) | (with_reducible refine Keeps.drew ?_) | (with_reducible refine Keeps.alloc ?_ _) | (with_reducible refine Keeps.setCell ?_ ?_ _) | (with_reducible refine Keeps.trans ?_ (After.keeps _)) | (with_reducible refine Keeps.trans ?_ (by with_reducible assumption)) | go_size)); (first | done | fail))⟩
  · have e : chunkI m = m - 2 := by unfold chunkI; rw [if_neg h]
    rw [e]
    clear e
    go_enter Tryz.func107, Tryz.ntmps107
    go_wp2
    go_ret
    exact ⟨rfl, by ((repeat' (first | (with_reducible exact Keeps.refl _) | (with_reducible assumption) | (with_reducible refine Keeps.drewN ?_ _) | (with_reducible refine Keeps.drew ?_) | (with_reducible refine Keeps.alloc ?_ _) | (with_reducible refine Keeps.setCell ?_ ?_ _) | (with_reducible refine Keeps.trans ?_ (After.keeps _)) | (with_reducible refine Keeps.trans ?_ (by with_reducible assumption)) | go_size)); (first | done | fail))⟩

end Go.Proofs.YtaecapjicphdkaaGreat
