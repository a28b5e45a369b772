/- What the document's answer on words computes: each function walked once. -/
import Derived.Test.YtkpagkopfdblgaaWordW
import Derived.Test.YtkpagkopfdblgaaRef1W
namespace Go.Proofs.Ytkpagkopfdblgaa
set_option linter.unusedVariables false
set_option linter.unusedSimpArgs false
open Go Go.RowKit
set_option maxRecDepth 100000

theorem rin_c (n a b : Int) (w : World) : Calls Try.prog 76 #[.int .i64 n, .int .i64 a, .int .i64 b] w fun e w' => e = .returned (.bool (withinB n a b)) ∧ w = w' := by
  go_enter Try.func76, Try.ntmps76
  go_wp2
  all_goals go_ret
  · have h : decide (a ≤ n) = true := decide_eq_true (by assumption)
    exact ⟨by unfold withinB; rw [h]; rfl, rfl⟩
  · have h : decide (a ≤ n) = false := decide_eq_false (by omega)
    exact ⟨by unfold withinB; rw [h]; rfl, rfl⟩

theorem rputHead_c (i t : Int) (w : World) : Calls Try.prog 18 #[.agg #[.int .i64 i, .int .i64 t]] w fun e w' => e = .returned (.tuple #[.int .u64 (headI i t), .bool (headB i t)]) ∧ Keeps w w' := by
  cases h : headB i t with
  | false =>
    have e2 : headI i t = 0 := by unfold headI; rw [h]; rfl
    have h2 : ¬ ((-1 ≤ i ∧ i ≤ 4294967294) ∧ 0 ≤ t ∧ t ≤ 4294967295) := by rw [← headB_true, h]; simp
    rw [e2]
    clear e2 h
    go_enter Try.func18, Try.ntmps18
    go_wp2
    all_goals first | (exfalso; omega) | (go_ret2; exact ⟨rfl, by ((repeat' (first | (with_reducible exact Keeps.refl _) | (with_reducible assumption) | (with_reducible refine Keeps.drewN ?_ _) | (with_reducible refine Keeps.drew ?_) | (with_reducible refine Keeps.alloc ?_ _) | (with_reducible refine Keeps.setCell ?_ ?_ _) | (with_reducible refine Keeps.trans ?_ (After.keeps _)) | (with_reducible refine Keeps.trans ?_ (by with_reducible assumption)) | go_size)); (first | done | fail))⟩)
  | true =>
    have e2 : headI i t = t * 4294967296 + (i + 1) := by unfold headI; rw [h]; rfl
    obtain ⟨⟨b1, b2⟩, b3, b4⟩ := headB_true.1 h
    rw [e2]
    clear e2 h
    have b5 : i < 4294967295 := by omega
    go_enter Try.func18, Try.ntmps18
    go_wp2
    go_ret2
    exact ⟨rfl, by ((repeat' (first | (with_reducible exact Keeps.refl _) | (with_reducible assumption) | (with_reducible refine Keeps.drewN ?_ _) | (with_reducible refine Keeps.drew ?_) | (with_reducible refine Keeps.alloc ?_ _) | (with_reducible refine Keeps.setCell ?_ ?_ _) | (with_reducible refine Keeps.trans ?_ (After.keeps _)) | (with_reducible refine Keeps.trans ?_ (by with_reducible assumption)) | go_size)); (first | done | fail))⟩

theorem rgetHead_c (x : Int) (w : World) (h0 : 0 ≤ x) (h1 : x < 18446744073709551616) : Calls Try.prog 24 #[.int .u64 x] w fun e w' => e = .returned (.agg #[.int .i64 (x % 4294967296 - 1), .int .i64 (x / 4294967296)]) ∧ Keeps w w' := by
  have b1 : 0 ≤ x % 4294967296 ∧ x % 4294967296 < 4294967296 := by omega
  have b2 : 0 ≤ x / 4294967296 ∧ x / 4294967296 < 4294967296 := by omega
  obtain ⟨b3, b4⟩ := b1
  obtain ⟨b5, b6⟩ := b2
  go_enter Try.func24, Try.ntmps24
  go_wp2
  go_returns
  exact ⟨rfl, by ((repeat' (first | (with_reducible exact Keeps.refl _) | (with_reducible assumption) | (with_reducible refine Keeps.drewN ?_ _) | (with_reducible refine Keeps.drew ?_) | (with_reducible refine Keeps.alloc ?_ _) | (with_reducible refine Keeps.setCell ?_ ?_ _) | (with_reducible refine Keeps.trans ?_ (After.keeps _)) | (with_reducible refine Keeps.trans ?_ (by with_reducible assumption)) | go_size)); (first | done | fail))⟩

theorem rnext_c (i t x : Int) (w : World) : Calls Try.prog 29 #[.agg #[.int .i64 i, .int .i64 t], .int .i64 x] w fun e w' => e = .returned (.agg #[.int .i64 x, .int .i64 (tagN t)]) ∧ Keeps w w' := by
  by_cases h : 0 ≤ t ∧ t ≤ 4294967294
  · have e : tagN t = t + 1 := by unfold tagN; rw [if_pos h]
    rw [e]
    obtain ⟨b1, b2⟩ := h
    have b3 : t < 4294967295 := by omega
    clear e
    go_enter Try.func29, Try.ntmps29
    go_wp2
    go_returns
    exact ⟨rfl, by ((repeat' (first | (with_reducible exact Keeps.refl _) | (with_reducible assumption) | (with_reducible refine Keeps.drewN ?_ _) | (with_reducible refine Keeps.drew ?_) | (with_reducible refine Keeps.alloc ?_ _) | (with_reducible refine Keeps.setCell ?_ ?_ _) | (with_reducible refine Keeps.trans ?_ (After.keeps _)) | (with_reducible refine Keeps.trans ?_ (by with_reducible assumption)) | go_size)); (first | done | fail))⟩
  · have e : tagN t = 0 := by unfold tagN; rw [if_neg h]
    rw [e]
    clear e
    go_enter Try.func29, Try.ntmps29
    go_wp2
    all_goals first | (exfalso; omega) | (go_returns; exact ⟨rfl, by ((repeat' (first | (with_reducible exact Keeps.refl _) | (with_reducible assumption) | (with_reducible refine Keeps.drewN ?_ _) | (with_reducible refine Keeps.drew ?_) | (with_reducible refine Keeps.alloc ?_ _) | (with_reducible refine Keeps.setCell ?_ ?_ _) | (with_reducible refine Keeps.trans ?_ (After.keeps _)) | (with_reducible refine Keeps.trans ?_ (by with_reducible assumption)) | go_size)); (first | done | fail))⟩)

theorem rputRoot_c (g m c o : Int) (w : World) : Calls Try.prog 20 #[.agg #[.int .i64 g, .int .i64 m, .int .i64 c, .int .i64 o]] w fun e w' => e = .returned (.tuple #[.int .u64 (rootI g m c o), .bool (rootB g m c o)]) ∧ Keeps w w' := by
  cases h1 : withinB g 0 4294967295 with
  | false =>
    have e : rootB g m c o = false := by unfold rootB; rw [h1]; rfl
    have e2 : rootI g m c o = 0 := by unfold rootI; rw [e]; rfl
    rw [e, e2]
    have H1 := Lib.hid h1
    clear h1 e e2
    go_enter Try.func20, Try.ntmps20
    go_wp2_with (go_at_call 76; refine (rin_c _ _ _ _).mono ?_; rintro e w' ⟨rfl, rfl⟩; rw [H1.out])
    go_ret2
    exact ⟨rfl, by ((repeat' (first | (with_reducible exact Keeps.refl _) | (with_reducible assumption) | (with_reducible refine Keeps.drewN ?_ _) | (with_reducible refine Keeps.drew ?_) | (with_reducible refine Keeps.alloc ?_ _) | (with_reducible refine Keeps.setCell ?_ ?_ _) | (with_reducible refine Keeps.trans ?_ (After.keeps _)) | (with_reducible refine Keeps.trans ?_ (by with_reducible assumption)) | go_size)); (first | done | fail))⟩
  | true =>
    have H1 := Lib.hid h1
    cases h2 : withinB m 0 4097 with
    | false =>
      have e : rootB g m c o = false := by unfold rootB; rw [h1, h2]; rfl
      have e2 : rootI g m c o = 0 := by unfold rootI; rw [e]; rfl
      rw [e, e2]
      have H2 := Lib.hid h2
      clear h1 h2 e e2
      go_enter Try.func20, Try.ntmps20
      go_wp2_with (go_at_call 76; refine (rin_c _ _ _ _).mono ?_; rintro e w' ⟨rfl, rfl⟩; first | rw [H1.out] | rw [H2.out])
      go_ret2
      exact ⟨rfl, by ((repeat' (first | (with_reducible exact Keeps.refl _) | (with_reducible assumption) | (with_reducible refine Keeps.drewN ?_ _) | (with_reducible refine Keeps.drew ?_) | (with_reducible refine Keeps.alloc ?_ _) | (with_reducible refine Keeps.setCell ?_ ?_ _) | (with_reducible refine Keeps.trans ?_ (After.keeps _)) | (with_reducible refine Keeps.trans ?_ (by with_reducible assumption)) | go_size)); (first | done | fail))⟩
    | true =>
      have H2 := Lib.hid h2
      cases h3 : withinB c 0 3 with
      | false =>
        have e : rootB g m c o = false := by unfold rootB; rw [h1, h2, h3]; rfl
        have e2 : rootI g m c o = 0 := by unfold rootI; rw [e]; rfl
        rw [e, e2]
        have H3 := Lib.hid h3
        clear h1 h2 h3 e e2
        go_enter Try.func20, Try.ntmps20
        go_wp2_with (go_at_call 76; refine (rin_c _ _ _ _).mono ?_; rintro e w' ⟨rfl, rfl⟩; first | rw [H1.out] | rw [H2.out] | rw [H3.out])
        go_ret2
        exact ⟨rfl, by ((repeat' (first | (with_reducible exact Keeps.refl _) | (with_reducible assumption) | (with_reducible refine Keeps.drewN ?_ _) | (with_reducible refine Keeps.drew ?_) | (with_reducible refine Keeps.alloc ?_ _) | (with_reducible refine Keeps.setCell ?_ ?_ _) | (with_reducible refine Keeps.trans ?_ (After.keeps _)) | (with_reducible refine Keeps.trans ?_ (by with_reducible assumption)) | go_size)); (first | done | fail))⟩
      | true =>
        have H3 := Lib.hid h3
        cases h4 : withinB o 0 1024 with
        | false =>
          have e : rootB g m c o = false := by unfold rootB; rw [h1, h2, h3, h4]; rfl
          have e2 : rootI g m c o = 0 := by unfold rootI; rw [e]; rfl
          rw [e, e2]
          have H4 := Lib.hid h4
          clear h1 h2 h3 h4 e e2
          go_enter Try.func20, Try.ntmps20
          go_wp2_with (go_at_call 76; refine (rin_c _ _ _ _).mono ?_; rintro e w' ⟨rfl, rfl⟩; first | rw [H1.out] | rw [H2.out] | rw [H3.out] | rw [H4.out])
          go_ret2
          exact ⟨rfl, by ((repeat' (first | (with_reducible exact Keeps.refl _) | (with_reducible assumption) | (with_reducible refine Keeps.drewN ?_ _) | (with_reducible refine Keeps.drew ?_) | (with_reducible refine Keeps.alloc ?_ _) | (with_reducible refine Keeps.setCell ?_ ?_ _) | (with_reducible refine Keeps.trans ?_ (After.keeps _)) | (with_reducible refine Keeps.trans ?_ (by with_reducible assumption)) | go_size)); (first | done | fail))⟩
        | true =>
          have H4 := Lib.hid h4
          have e : rootB g m c o = true := by unfold rootB; rw [h1, h2, h3, h4]; rfl
          have e2 : rootI g m c o = g * 4294967296 + m * 65536 + c * 4096 + o := by unfold rootI; rw [e]; rfl
          rw [e, e2]
          obtain ⟨a1, a2⟩ := withinB_true.1 h1
          obtain ⟨a3, a4⟩ := withinB_true.1 h2
          obtain ⟨a5, a6⟩ := withinB_true.1 h3
          obtain ⟨a7, a8⟩ := withinB_true.1 h4
          clear h1 h2 h3 h4 e e2
          go_enter Try.func20, Try.ntmps20
          go_wp2_with (go_at_call 76; refine (rin_c _ _ _ _).mono ?_; rintro e w' ⟨rfl, rfl⟩; first | rw [H1.out] | rw [H2.out] | rw [H3.out] | rw [H4.out])
          go_ret2
          exact ⟨rfl, by ((repeat' (first | (with_reducible exact Keeps.refl _) | (with_reducible assumption) | (with_reducible refine Keeps.drewN ?_ _) | (with_reducible refine Keeps.drew ?_) | (with_reducible refine Keeps.alloc ?_ _) | (with_reducible refine Keeps.setCell ?_ ?_ _) | (with_reducible refine Keeps.trans ?_ (After.keeps _)) | (with_reducible refine Keeps.trans ?_ (by with_reducible assumption)) | go_size)); (first | done | fail))⟩

theorem rgetRoot_c (x : Int) (w : World) (h0 : 0 ≤ x) (h1 : x < 18446744073709551616) : Calls Try.prog 26 #[.int .u64 x] w fun e w' => e = .returned (.agg #[.int .i64 (x / 4294967296), .int .i64 (x / 65536 % 65536), .int .i64 (x / 4096 % 16), .int .i64 (x % 4096)]) ∧ Keeps w w' := by
  have b1 : 0 ≤ x / 4294967296 ∧ x / 4294967296 < 4294967296 := by omega
  obtain ⟨b3, b4⟩ := b1
  go_enter Try.func26, Try.ntmps26
  go_wp2
  go_returns
  exact ⟨rfl, by ((repeat' (first | (with_reducible exact Keeps.refl _) | (with_reducible assumption) | (with_reducible refine Keeps.drewN ?_ _) | (with_reducible refine Keeps.drew ?_) | (with_reducible refine Keeps.alloc ?_ _) | (with_reducible refine Keeps.setCell ?_ ?_ _) | (with_reducible refine Keeps.trans ?_ (After.keeps _)) | (with_reducible refine Keeps.trans ?_ (by with_reducible assumption)) | go_size)); (first | done | fail))⟩

theorem rputPin_c (n : Int) (w : World) : Calls Try.prog 22 #[.int .i64 n] w fun e w' => e = .returned (.tuple #[.int .u64 (pinI n), .bool (withinB n 0 4611686018427387903)]) ∧ ∃ k, w' = w.drewN k := by
  cases h1 : withinB n 0 4611686018427387903 with
  | false =>
    have e2 : pinI n = 0 := by unfold pinI; rw [h1]; rfl
    rw [e2]
    have H1 := Lib.hid h1
    clear h1 e2
    go_enter Try.func22, Try.ntmps22
    go_wp2_with (go_at_call 76; refine (rin_c _ _ _ _).mono ?_; rintro e w' ⟨rfl, rfl⟩; rw [H1.out])
    go_ret2
    exact ⟨rfl, 0, rfl⟩
  | true =>
    have e2 : pinI n = 2 * n + 1 := by unfold pinI; rw [h1]; rfl
    rw [e2]
    obtain ⟨a1, a2⟩ := withinB_true.1 h1
    have H1 := Lib.hid h1
    clear h1 e2
    go_enter Try.func22, Try.ntmps22
    go_wp2_with (go_at_call 76; refine (rin_c _ _ _ _).mono ?_; rintro e w' ⟨rfl, rfl⟩; rw [H1.out])
    go_ret2
    exact ⟨rfl, 0, rfl⟩

theorem rgetPin_c (x : Int) (w : World) (h0 : 0 ≤ x) (h1 : x < 18446744073709551616) : Calls Try.prog 28 #[.int .u64 x] w fun e w' => e = .returned (.tuple #[.int .i64 (pinGet x), .bool (!(x % 2 == 0))]) ∧ ∃ k, w' = w.drewN k := by
  by_cases h : x % 2 = 0
  · have e : pinGet x = 0 := by unfold pinGet; rw [if_pos h]
    have e2 : (x % 2 == 0) = true := by rw [h]; rfl
    rw [e, e2]
    clear e
    go_enter Try.func28, Try.ntmps28
    go_wp2
    go_ret2
    exact ⟨rfl, 0, rfl⟩
  · have e : pinGet x = x / 2 := by unfold pinGet; rw [if_neg h]
    have e2 : (x % 2 == 0) = false := by simp; omega
    rw [e, e2]
    have b2 : 0 ≤ x / 2 := by omega
    have b3 : x / 2 < 9223372036854775808 := by omega
    clear e
    go_enter Try.func28, Try.ntmps28
    go_wp2
    go_ret2
    exact ⟨rfl, 0, rfl⟩

end Go.Proofs.Ytkpagkopfdblgaa
