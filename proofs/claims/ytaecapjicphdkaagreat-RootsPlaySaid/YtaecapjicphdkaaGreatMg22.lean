/- What the document's answer on places computes: each function walked once. -/
import Derived.Test.YtaecapjicphdkaaGreatMg21
import Derived.Test.YtaecapjicphdkaaGreatMg05
namespace Go.Proofs.YtaecapjicphdkaaGreat
set_option linter.unusedVariables false
set_option linter.unusedSimpArgs false
open Go Go.RowKit
set_option maxRecDepth 100000

theorem rmay_c (p k d s c b : Int) (w : World) : Calls Tryz.prog 128 #[.agg #[.int .i64 p, .int .i64 k, .int .i64 d, .int .i64 s, .int .i64 c, .int .i64 b]] w fun e w' => e = .returned (.bool (mayB p k d s c b)) ∧ Keeps w w' := by
  cases h0 : withinB p 1 64 with
  | false =>
    have e : mayB p k d s c b = false := by unfold mayB; rw [h0]; rfl
    rw [e]
    have H0 := Lib.hid h0
    clear e h0
    go_enter Tryz.func128, Tryz.ntmps128
    go_wp2_with (go_at_call 131; refine (rin_c _ _ _ _).mono ?_; rintro e w' ⟨rfl, rfl⟩; first | rw [H0.out])
    go_ret
    exact ⟨rfl, by ((repeat' (first | (with_reducible exact Keeps.refl _) | (with_reducible assumption) | (with_reducible refine Keeps.drewN ?_ _) | (with_reducible refine Keeps.drew ?_) | (with_reducible refine Keeps.alloc ?_ _) | (with_reducible refine Keeps.setCell ?_ ?_ _) | (with_reducible refine Keeps.trans ?_ (After.keeps _)) | (with_reducible refine Keeps.trans ?_ (by with_reducible assumption)) | go_size)); (first | done | fail))⟩
  | true =>
  have H0 := Lib.hid h0
  cases h1 : withinB k 1 4096 with
  | false =>
    have e : mayB p k d s c b = false := by unfold mayB; rw [h0, h1]; rfl
    rw [e]
    have H1 := Lib.hid h1
    clear e h0 h1
    go_enter Tryz.func128, Tryz.ntmps128
    go_wp2_with (go_at_call 131; refine (rin_c _ _ _ _).mono ?_; rintro e w' ⟨rfl, rfl⟩; first | rw [H0.out] | rw [H1.out])
    go_ret
    exact ⟨rfl, by ((repeat' (first | (with_reducible exact Keeps.refl _) | (with_reducible assumption) | (with_reducible refine Keeps.drewN ?_ _) | (with_reducible refine Keeps.drew ?_) | (with_reducible refine Keeps.alloc ?_ _) | (with_reducible refine Keeps.setCell ?_ ?_ _) | (with_reducible refine Keeps.trans ?_ (After.keeps _)) | (with_reducible refine Keeps.trans ?_ (by with_reducible assumption)) | go_size)); (first | done | fail))⟩
  | true =>
  have H1 := Lib.hid h1
  cases h2 : withinB d 8 1024 with
  | false =>
    have e : mayB p k d s c b = false := by unfold mayB; rw [h0, h1, h2]; rfl
    rw [e]
    have H2 := Lib.hid h2
    clear e h0 h1 h2
    go_enter Tryz.func128, Tryz.ntmps128
    go_wp2_with (go_at_call 131; refine (rin_c _ _ _ _).mono ?_; rintro e w' ⟨rfl, rfl⟩; first | rw [H0.out] | rw [H1.out] | rw [H2.out])
    go_ret
    exact ⟨rfl, by ((repeat' (first | (with_reducible exact Keeps.refl _) | (with_reducible assumption) | (with_reducible refine Keeps.drewN ?_ _) | (with_reducible refine Keeps.drew ?_) | (with_reducible refine Keeps.alloc ?_ _) | (with_reducible refine Keeps.setCell ?_ ?_ _) | (with_reducible refine Keeps.trans ?_ (After.keeps _)) | (with_reducible refine Keeps.trans ?_ (by with_reducible assumption)) | go_size)); (first | done | fail))⟩
  | true =>
  have H2 := Lib.hid h2
  obtain ⟨d1, d2⟩ := withinB_true.1 h2
  cases h3 : (d % 8 == 0) with
  | false =>
    have e : mayB p k d s c b = false := by unfold mayB; rw [h0, h1, h2, h3]; rfl
    rw [e]
    clear e h0 h1 h2
    go_enter Tryz.func128, Tryz.ntmps128
    go_wp2_with (go_at_call 131; refine (rin_c _ _ _ _).mono ?_; rintro e w' ⟨rfl, rfl⟩; first | rw [H0.out] | rw [H1.out] | rw [H2.out])
    go_ret
    exact ⟨rfl, by ((repeat' (first | (with_reducible exact Keeps.refl _) | (with_reducible assumption) | (with_reducible refine Keeps.drewN ?_ _) | (with_reducible refine Keeps.drew ?_) | (with_reducible refine Keeps.alloc ?_ _) | (with_reducible refine Keeps.setCell ?_ ?_ _) | (with_reducible refine Keeps.trans ?_ (After.keeps _)) | (with_reducible refine Keeps.trans ?_ (by with_reducible assumption)) | go_size)); (first | done | fail))⟩
  | true =>
  cases h4 : withinB s 1 4096 with
  | false =>
    have e : mayB p k d s c b = false := by unfold mayB; rw [h0, h1, h2, h3, h4]; rfl
    rw [e]
    have H4 := Lib.hid h4
    clear e h0 h1 h2 h4
    go_enter Tryz.func128, Tryz.ntmps128
    go_wp2_with (go_at_call 131; refine (rin_c _ _ _ _).mono ?_; rintro e w' ⟨rfl, rfl⟩; first | rw [H0.out] | rw [H1.out] | rw [H2.out] | rw [H4.out])
    go_ret
    exact ⟨rfl, by ((repeat' (first | (with_reducible exact Keeps.refl _) | (with_reducible assumption) | (with_reducible refine Keeps.drewN ?_ _) | (with_reducible refine Keeps.drew ?_) | (with_reducible refine Keeps.alloc ?_ _) | (with_reducible refine Keeps.setCell ?_ ?_ _) | (with_reducible refine Keeps.trans ?_ (After.keeps _)) | (with_reducible refine Keeps.trans ?_ (by with_reducible assumption)) | go_size)); (first | done | fail))⟩
  | true =>
  have H4 := Lib.hid h4
  cases h5 : withinB c 0 64 with
  | false =>
    have e : mayB p k d s c b = false := by unfold mayB; rw [h0, h1, h2, h3, h4, h5]; rfl
    rw [e]
    have H5 := Lib.hid h5
    clear e h0 h1 h2 h4 h5
    go_enter Tryz.func128, Tryz.ntmps128
    go_wp2_with (go_at_call 131; refine (rin_c _ _ _ _).mono ?_; rintro e w' ⟨rfl, rfl⟩; first | rw [H0.out] | rw [H1.out] | rw [H2.out] | rw [H4.out] | rw [H5.out])
    go_ret
    exact ⟨rfl, by ((repeat' (first | (with_reducible exact Keeps.refl _) | (with_reducible assumption) | (with_reducible refine Keeps.drewN ?_ _) | (with_reducible refine Keeps.drew ?_) | (with_reducible refine Keeps.alloc ?_ _) | (with_reducible refine Keeps.setCell ?_ ?_ _) | (with_reducible refine Keeps.trans ?_ (After.keeps _)) | (with_reducible refine Keeps.trans ?_ (by with_reducible assumption)) | go_size)); (first | done | fail))⟩
  | true =>
  have H5 := Lib.hid h5
  have e : mayB p k d s c b = withinB b 1 8 := by unfold mayB; rw [h0, h1, h2, h3, h4, h5]; rfl
  rw [e]
  clear e h0 h1 h2 h4 h5
  go_enter Tryz.func128, Tryz.ntmps128
  go_wp2_with (go_at_call 131; refine (rin_c _ _ _ _).mono ?_; rintro e w' ⟨rfl, rfl⟩; first | rw [H0.out] | rw [H1.out] | rw [H2.out] | rw [H4.out] | rw [H5.out] | skip)
  go_ret
  exact ⟨rfl, by ((repeat' (first | (with_reducible exact Keeps.refl _) | (with_reducible assumption) | (with_reducible refine Keeps.drewN ?_ _) | (with_reducible refine Keeps.drew ?_) | (with_reducible refine Keeps.alloc ?_ _) | (with_reducible refine Keeps.setCell ?_ ?_ _) | (with_reducible refine Keeps.trans ?_ (After.keeps _)) | (with_reducible refine Keeps.trans ?_ (by with_reducible assumption)) | go_size)); (first | done | fail))⟩

theorem rlen_c (p k d s c b : Int) (w : World) : Calls Tryz.prog 90 #[.agg #[.int .i64 p, .int .i64 k, .int .i64 d, .int .i64 s, .int .i64 c, .int .i64 b]] w fun e w' => e = .returned (.int .i64 (lenI p k d s c b)) ∧ Keeps w w' := by
  cases h : mayB p k d s c b with
  | false =>
    have e : lenI p k d s c b = 0 := by unfold lenI; rw [h]; rfl
    rw [e]
    have H := Lib.hid h
    clear h e
    have Z := Live.nil w.heap.size
    go_enter Tryz.func90, Tryz.ntmps90
    go_wp2_with (go_at_call 128; refine (rmay_c _ _ _ _ _ _ _).mono ?_; rintro e w' ⟨rfl, h1⟩; rw [H.out]; have hc_ := fun (b o : Nat) (hb : b < _) => (h1).cell (b := b) (o := o) hb; have hf_ := fun (b o : Nat) (hb : b < _) => (h1).frozen (b := b) (o := o) hb; have hs_ := (h1).size; (try simp only [World.size_alloc, World.heap_drewN, World.size_drew, World.size_setCell] at hs_); (first | (with_reducible replace Z := Live.step0 Z hs_) | (with_reducible replace Z := Live.step1 Z hs_) | (with_reducible replace Z := Live.step2 Z hs_) | (with_reducible replace Z := Live.step3 Z hs_) | (with_reducible replace Z := Live.step4 Z hs_)); have z_ := Z; simp only [Live, List.forall_mem_cons, List.not_mem_nil, false_imp_iff, implies_true, and_true] at z_)
    go_ret
    exact ⟨rfl, by ((repeat' (first | (with_reducible exact Keeps.refl _) | (with_reducible assumption) | (with_reducible refine Keeps.drewN ?_ _) | (with_reducible refine Keeps.drew ?_) | (with_reducible refine Keeps.alloc ?_ _) | (with_reducible refine Keeps.setCell ?_ ?_ _) | (with_reducible refine Keeps.trans ?_ (After.keeps _)) | (with_reducible refine Keeps.trans ?_ (by with_reducible assumption)) | go_size)); (first | done | fail))⟩
  | true =>
    have e : lenI p k d s c b = 3 + p + 2 * s + k + k * d := by unfold lenI; rw [h]; rfl
    rw [e]
    obtain ⟨⟨p0, p1⟩, ⟨k0, k1⟩, ⟨d0, d1⟩, -, ⟨s0, s1⟩, ⟨c0, c1⟩, b0, b1⟩ := mayB_true.1 h
    obtain ⟨q0, q1⟩ := prod_bd k0 k1 d0 d1
    have H := Lib.hid h
    clear h e
    have Z := Live.nil w.heap.size
    go_enter Tryz.func90, Tryz.ntmps90
    go_wp2_with (go_at_call 128; refine (rmay_c _ _ _ _ _ _ _).mono ?_; rintro e w' ⟨rfl, h1⟩; rw [H.out]; have hc_ := fun (b o : Nat) (hb : b < _) => (h1).cell (b := b) (o := o) hb; have hf_ := fun (b o : Nat) (hb : b < _) => (h1).frozen (b := b) (o := o) hb; have hs_ := (h1).size; (try simp only [World.size_alloc, World.heap_drewN, World.size_drew, World.size_setCell] at hs_); (first | (with_reducible replace Z := Live.step0 Z hs_) | (with_reducible replace Z := Live.step1 Z hs_) | (with_reducible replace Z := Live.step2 Z hs_) | (with_reducible replace Z := Live.step3 Z hs_) | (with_reducible replace Z := Live.step4 Z hs_)); have z_ := Z; simp only [Live, List.forall_mem_cons, List.not_mem_nil, false_imp_iff, implies_true, and_true] at z_)
    go_ret
    exact ⟨rfl, by ((repeat' (first | (with_reducible exact Keeps.refl _) | (with_reducible assumption) | (with_reducible refine Keeps.drewN ?_ _) | (with_reducible refine Keeps.drew ?_) | (with_reducible refine Keeps.alloc ?_ _) | (with_reducible refine Keeps.setCell ?_ ?_ _) | (with_reducible refine Keeps.trans ?_ (After.keeps _)) | (with_reducible refine Keeps.trans ?_ (by with_reducible assumption)) | go_size)); (first | done | fail))⟩

theorem rat_no (p k d s c b f n i : Int) (w : World) (h : mayB p k d s c b = false) : Calls Tryz.prog 94 #[.agg #[.int .i64 p, .int .i64 k, .int .i64 d, .int .i64 s, .int .i64 c, .int .i64 b], .int .i64 f, .int .i64 n, .int .i64 i] w fun e w' => e = .returned (.int .i64 (-1)) ∧ Keeps w w' := by
  have H := Lib.hid h
  clear h
  have Z := Live.nil w.heap.size
  go_enter Tryz.func94, Tryz.ntmps94
  go_wp2_with (go_at_call 128; refine (rmay_c _ _ _ _ _ _ _).mono ?_; rintro e w' ⟨rfl, h1⟩; rw [H.out]; have hc_ := fun (b o : Nat) (hb : b < _) => (h1).cell (b := b) (o := o) hb; have hf_ := fun (b o : Nat) (hb : b < _) => (h1).frozen (b := b) (o := o) hb; have hs_ := (h1).size; (try simp only [World.size_alloc, World.heap_drewN, World.size_drew, World.size_setCell] at hs_); (first | (with_reducible replace Z := Live.step0 Z hs_) | (with_reducible replace Z := Live.step1 Z hs_) | (with_reducible replace Z := Live.step2 Z hs_) | (with_reducible replace Z := Live.step3 Z hs_) | (with_reducible replace Z := Live.step4 Z hs_)); have z_ := Z; simp only [Live, List.forall_mem_cons, List.not_mem_nil, false_imp_iff, implies_true, and_true] at z_)
  go_ret
  exact ⟨rfl, by ((repeat' (first | (with_reducible exact Keeps.refl _) | (with_reducible assumption) | (with_reducible refine Keeps.drewN ?_ _) | (with_reducible refine Keeps.drew ?_) | (with_reducible refine Keeps.alloc ?_ _) | (with_reducible refine Keeps.setCell ?_ ?_ _) | (with_reducible refine Keeps.trans ?_ (After.keeps _)) | (with_reducible refine Keeps.trans ?_ (by with_reducible assumption)) | go_size)); (first | done | fail))⟩
theorem rat_out (p k d s c b f n i : Int) (w : World) (h : mayB p k d s c b = true) (hi : i < 0 ∨ n ≤ i) : Calls Tryz.prog 94 #[.agg #[.int .i64 p, .int .i64 k, .int .i64 d, .int .i64 s, .int .i64 c, .int .i64 b], .int .i64 f, .int .i64 n, .int .i64 i] w fun e w' => e = .returned (.int .i64 (-1)) ∧ Keeps w w' := by
  have H := Lib.hid h
  clear h
  by_cases h0 : i < 0
  · clear hi
    have Z := Live.nil w.heap.size
    go_enter Tryz.func94, Tryz.ntmps94
    go_wp2_with (go_at_call 128; refine (rmay_c _ _ _ _ _ _ _).mono ?_; rintro e w' ⟨rfl, h1⟩; rw [H.out]; have hc_ := fun (b o : Nat) (hb : b < _) => (h1).cell (b := b) (o := o) hb; have hf_ := fun (b o : Nat) (hb : b < _) => (h1).frozen (b := b) (o := o) hb; have hs_ := (h1).size; (try simp only [World.size_alloc, World.heap_drewN, World.size_drew, World.size_setCell] at hs_); (first | (with_reducible replace Z := Live.step0 Z hs_) | (with_reducible replace Z := Live.step1 Z hs_) | (with_reducible replace Z := Live.step2 Z hs_) | (with_reducible replace Z := Live.step3 Z hs_) | (with_reducible replace Z := Live.step4 Z hs_)); have z_ := Z; simp only [Live, List.forall_mem_cons, List.not_mem_nil, false_imp_iff, implies_true, and_true] at z_)
    go_ret
    exact ⟨rfl, by ((repeat' (first | (with_reducible exact Keeps.refl _) | (with_reducible assumption) | (with_reducible refine Keeps.drewN ?_ _) | (with_reducible refine Keeps.drew ?_) | (with_reducible refine Keeps.alloc ?_ _) | (with_reducible refine Keeps.setCell ?_ ?_ _) | (with_reducible refine Keeps.trans ?_ (After.keeps _)) | (with_reducible refine Keeps.trans ?_ (by with_reducible assumption)) | go_size)); (first | done | fail))⟩
  · have h1 : n ≤ i := by omega
    clear hi
    have Z := Live.nil w.heap.size
    go_enter Tryz.func94, Tryz.ntmps94
    go_wp2_with (go_at_call 128; refine (rmay_c _ _ _ _ _ _ _).mono ?_; rintro e w' ⟨rfl, h1⟩; rw [H.out]; have hc_ := fun (b o : Nat) (hb : b < _) => (h1).cell (b := b) (o := o) hb; have hf_ := fun (b o : Nat) (hb : b < _) => (h1).frozen (b := b) (o := o) hb; have hs_ := (h1).size; (try simp only [World.size_alloc, World.heap_drewN, World.size_drew, World.size_setCell] at hs_); (first | (with_reducible replace Z := Live.step0 Z hs_) | (with_reducible replace Z := Live.step1 Z hs_) | (with_reducible replace Z := Live.step2 Z hs_) | (with_reducible replace Z := Live.step3 Z hs_) | (with_reducible replace Z := Live.step4 Z hs_)); have z_ := Z; simp only [Live, List.forall_mem_cons, List.not_mem_nil, false_imp_iff, implies_true, and_true] at z_)
    go_ret
    exact ⟨rfl, by ((repeat' (first | (with_reducible exact Keeps.refl _) | (with_reducible assumption) | (with_reducible refine Keeps.drewN ?_ _) | (with_reducible refine Keeps.drew ?_) | (with_reducible refine Keeps.alloc ?_ _) | (with_reducible refine Keeps.setCell ?_ ?_ _) | (with_reducible refine Keeps.trans ?_ (After.keeps _)) | (with_reducible refine Keeps.trans ?_ (by with_reducible assumption)) | go_size)); (first | done | fail))⟩
theorem rat_in (p k d s c b f n i : Int) (w : World) (h : mayB p k d s c b = true) (i0 : 0 ≤ i) (i1 : i < n) (f0 : 0 ≤ f) (f1 : f ≤ 1000000) (n1 : n ≤ 1000000) : Calls Tryz.prog 94 #[.agg #[.int .i64 p, .int .i64 k, .int .i64 d, .int .i64 s, .int .i64 c, .int .i64 b], .int .i64 f, .int .i64 n, .int .i64 i] w fun e w' => e = .returned (.int .i64 (f + i)) ∧ Keeps w w' := by
  have H := Lib.hid h
  clear h
  have Z := Live.nil w.heap.size
  go_enter Tryz.func94, Tryz.ntmps94
  go_wp2_with (go_at_call 128; refine (rmay_c _ _ _ _ _ _ _).mono ?_; rintro e w' ⟨rfl, h1⟩; rw [H.out]; have hc_ := fun (b o : Nat) (hb : b < _) => (h1).cell (b := b) (o := o) hb; have hf_ := fun (b o : Nat) (hb : b < _) => (h1).frozen (b := b) (o := o) hb; have hs_ := (h1).size; (try simp only [World.size_alloc, World.heap_drewN, World.size_drew, World.size_setCell] at hs_); (first | (with_reducible replace Z := Live.step0 Z hs_) | (with_reducible replace Z := Live.step1 Z hs_) | (with_reducible replace Z := Live.step2 Z hs_) | (with_reducible replace Z := Live.step3 Z hs_) | (with_reducible replace Z := Live.step4 Z hs_)); have z_ := Z; simp only [Live, List.forall_mem_cons, List.not_mem_nil, false_imp_iff, implies_true, and_true] at z_)
  go_ret
  exact ⟨rfl, by ((repeat' (first | (with_reducible exact Keeps.refl _) | (with_reducible assumption) | (with_reducible refine Keeps.drewN ?_ _) | (with_reducible refine Keeps.drew ?_) | (with_reducible refine Keeps.alloc ?_ _) | (with_reducible refine Keeps.setCell ?_ ?_ _) | (with_reducible refine Keeps.trans ?_ (After.keeps _)) | (with_reducible refine Keeps.trans ?_ (by with_reducible assumption)) | go_size)); (first | done | fail))⟩

/-- Pin's cell. -/
def cpinI (p k d s c b i : Int) : Int := atI (mayB p k d s c b) 3 p i
theorem rcpin_c (p k d s c b i : Int) (w : World) : Calls Tryz.prog 92 #[.agg #[.int .i64 p, .int .i64 k, .int .i64 d, .int .i64 s, .int .i64 c, .int .i64 b], .int .i64 i] w fun e w' => e = .returned (.int .i64 (cpinI p k d s c b i)) ∧ Keeps w w' := by
  cases h : mayB p k d s c b with
  | false =>
    have e : cpinI p k d s c b i = -1 := atI_f (.inl h)
    rw [e]
    go_enter Tryz.func92, Tryz.ntmps92
    go_wp2_with (go_at_call 94; refine (rat_no _ _ _ _ _ _ _ _ _ _ h).mono ?_; rintro e w' ⟨rfl, h1⟩)
    go_ret
    exact ⟨rfl, by ((repeat' (first | (with_reducible exact Keeps.refl _) | (with_reducible assumption) | (with_reducible refine Keeps.drewN ?_ _) | (with_reducible refine Keeps.drew ?_) | (with_reducible refine Keeps.alloc ?_ _) | (with_reducible refine Keeps.setCell ?_ ?_ _) | (with_reducible refine Keeps.trans ?_ (After.keeps _)) | (with_reducible refine Keeps.trans ?_ (by with_reducible assumption)) | go_size)); (first | done | fail))⟩
  | true =>
    obtain ⟨⟨p0, p1⟩, ⟨k0, k1⟩, ⟨d0, d1⟩, -, ⟨s0, s1⟩, ⟨c0, c1⟩, b0, b1⟩ := mayB_true.1 h
    by_cases hi : 0 ≤ i ∧ i < p
    · obtain ⟨i0, i1⟩ := hi
      have e : cpinI p k d s c b i = 3 + i := atI_t h i0 i1
      rw [show 3 + i = 3 + i from by omega] at e
      rw [e]
      clear e
      go_enter Tryz.func92, Tryz.ntmps92
      go_wp2_with (go_at_call 94; refine (rat_in _ _ _ _ _ _ _ _ _ _ h i0 i1 (by omega) (by omega) (by omega)).mono ?_; rintro e w' ⟨rfl, h1⟩)
      go_ret
      exact ⟨rfl, by ((repeat' (first | (with_reducible exact Keeps.refl _) | (with_reducible assumption) | (with_reducible refine Keeps.drewN ?_ _) | (with_reducible refine Keeps.drew ?_) | (with_reducible refine Keeps.alloc ?_ _) | (with_reducible refine Keeps.setCell ?_ ?_ _) | (with_reducible refine Keeps.trans ?_ (After.keeps _)) | (with_reducible refine Keeps.trans ?_ (by with_reducible assumption)) | go_size)); (first | done | fail))⟩
    · have hi2 : i < 0 ∨ p ≤ i := by omega
      have e : cpinI p k d s c b i = -1 := atI_f (.inr hi2)
      rw [e]
      clear e hi
      go_enter Tryz.func92, Tryz.ntmps92
      go_wp2_with (go_at_call 94; refine (rat_out _ _ _ _ _ _ _ _ _ _ h hi2).mono ?_; rintro e w' ⟨rfl, h1⟩)
      go_ret
      exact ⟨rfl, by ((repeat' (first | (with_reducible exact Keeps.refl _) | (with_reducible assumption) | (with_reducible refine Keeps.drewN ?_ _) | (with_reducible refine Keeps.drew ?_) | (with_reducible refine Keeps.alloc ?_ _) | (with_reducible refine Keeps.setCell ?_ ?_ _) | (with_reducible refine Keeps.trans ?_ (After.keeps _)) | (with_reducible refine Keeps.trans ?_ (by with_reducible assumption)) | go_size)); (first | done | fail))⟩

/-- Root's cell. -/
def crootI (p k d s c b i : Int) : Int := atI (mayB p k d s c b) (3 + p) s i
theorem lcroot_c (p k d s c b i : Int) (w : World) : Calls Tryz.prog 47 #[.agg #[.int .i64 p, .int .i64 k, .int .i64 d, .int .i64 s, .int .i64 c, .int .i64 b], .int .i64 i] w fun e w' => e = .returned (.int .i64 (crootI p k d s c b i)) ∧ Keeps w w' := by
  cases h : mayB p k d s c b with
  | false =>
    have e : crootI p k d s c b i = -1 := atI_f (.inl h)
    rw [e]
    go_enter Tryz.func47, Tryz.ntmps47
    go_wp2_with (go_at_call 76; refine (cell_no _ _ _ _ _ _ _ _ _ h).mono ?_; rintro e w' ⟨rfl, h1⟩)
    go_ret
    exact ⟨rfl, by ((repeat' (first | (with_reducible exact Keeps.refl _) | (with_reducible assumption) | (with_reducible refine Keeps.drewN ?_ _) | (with_reducible refine Keeps.drew ?_) | (with_reducible refine Keeps.alloc ?_ _) | (with_reducible refine Keeps.setCell ?_ ?_ _) | (with_reducible refine Keeps.trans ?_ (After.keeps _)) | (with_reducible refine Keeps.trans ?_ (by with_reducible assumption)) | go_size)); (first | done | fail))⟩
  | true =>
    by_cases hi : 0 ≤ i ∧ i < s
    · obtain ⟨i0, i1⟩ := hi
      have e : crootI p k d s c b i = (3 + p) + i := atI_t h i0 i1
      rw [e]
      clear e
      go_enter Tryz.func47, Tryz.ntmps47
      go_wp2_with (go_at_call 76; refine (cell4_t _ _ _ _ _ _ _ _ h i0 i1).mono ?_; rintro e w' ⟨rfl, h1⟩)
      go_ret
      exact ⟨rfl, by ((repeat' (first | (with_reducible exact Keeps.refl _) | (with_reducible assumption) | (with_reducible refine Keeps.drewN ?_ _) | (with_reducible refine Keeps.drew ?_) | (with_reducible refine Keeps.alloc ?_ _) | (with_reducible refine Keeps.setCell ?_ ?_ _) | (with_reducible refine Keeps.trans ?_ (After.keeps _)) | (with_reducible refine Keeps.trans ?_ (by with_reducible assumption)) | go_size)); (first | done | fail))⟩
    · have hi2 : i < 0 ∨ s ≤ i := by omega
      have e : crootI p k d s c b i = -1 := atI_f (.inr hi2)
      rw [e]
      clear e hi
      go_enter Tryz.func47, Tryz.ntmps47
      go_wp2_with (go_at_call 76; refine (cell4_f _ _ _ _ _ _ _ _ h hi2).mono ?_; rintro e w' ⟨rfl, h1⟩)
      go_ret
      exact ⟨rfl, by ((repeat' (first | (with_reducible exact Keeps.refl _) | (with_reducible assumption) | (with_reducible refine Keeps.drewN ?_ _) | (with_reducible refine Keeps.drew ?_) | (with_reducible refine Keeps.alloc ?_ _) | (with_reducible refine Keeps.setCell ?_ ?_ _) | (with_reducible refine Keeps.trans ?_ (After.keeps _)) | (with_reducible refine Keeps.trans ?_ (by with_reducible assumption)) | go_size)); (first | done | fail))⟩
theorem rcroot_c (p k d s c b i : Int) (w : World) : Calls Tryz.prog 101 #[.agg #[.int .i64 p, .int .i64 k, .int .i64 d, .int .i64 s, .int .i64 c, .int .i64 b], .int .i64 i] w fun e w' => e = .returned (.int .i64 (crootI p k d s c b i)) ∧ Keeps w w' := by
  cases h : mayB p k d s c b with
  | false =>
    have e : crootI p k d s c b i = -1 := atI_f (.inl h)
    rw [e]
    go_enter Tryz.func101, Tryz.ntmps101
    go_wp2_with (go_at_call 94; refine (rat_no _ _ _ _ _ _ _ _ _ _ h).mono ?_; rintro e w' ⟨rfl, h1⟩)
    go_ret
    exact ⟨rfl, by ((repeat' (first | (with_reducible exact Keeps.refl _) | (with_reducible assumption) | (with_reducible refine Keeps.drewN ?_ _) | (with_reducible refine Keeps.drew ?_) | (with_reducible refine Keeps.alloc ?_ _) | (with_reducible refine Keeps.setCell ?_ ?_ _) | (with_reducible refine Keeps.trans ?_ (After.keeps _)) | (with_reducible refine Keeps.trans ?_ (by with_reducible assumption)) | go_size)); (first | done | fail))⟩
  | true =>
    obtain ⟨⟨p0, p1⟩, ⟨k0, k1⟩, ⟨d0, d1⟩, -, ⟨s0, s1⟩, ⟨c0, c1⟩, b0, b1⟩ := mayB_true.1 h
    by_cases hi : 0 ≤ i ∧ i < s
    · obtain ⟨i0, i1⟩ := hi
      have e : crootI p k d s c b i = (3 + p) + i := atI_t h i0 i1
      rw [show (3 + p) + i = (3 + p) + i from by omega] at e
      rw [e]
      clear e
      go_enter Tryz.func101, Tryz.ntmps101
      go_wp2_with (go_at_call 94; refine (rat_in _ _ _ _ _ _ _ _ _ _ h i0 i1 (by omega) (by omega) (by omega)).mono ?_; rintro e w' ⟨rfl, h1⟩)
      go_ret
      exact ⟨rfl, by ((repeat' (first | (with_reducible exact Keeps.refl _) | (with_reducible assumption) | (with_reducible refine Keeps.drewN ?_ _) | (with_reducible refine Keeps.drew ?_) | (with_reducible refine Keeps.alloc ?_ _) | (with_reducible refine Keeps.setCell ?_ ?_ _) | (with_reducible refine Keeps.trans ?_ (After.keeps _)) | (with_reducible refine Keeps.trans ?_ (by with_reducible assumption)) | go_size)); (first | done | fail))⟩
    · have hi2 : i < 0 ∨ s ≤ i := by omega
      have e : crootI p k d s c b i = -1 := atI_f (.inr hi2)
      rw [e]
      clear e hi
      go_enter Tryz.func101, Tryz.ntmps101
      go_wp2_with (go_at_call 94; refine (rat_out _ _ _ _ _ _ _ _ _ _ h hi2).mono ?_; rintro e w' ⟨rfl, h1⟩)
      go_ret
      exact ⟨rfl, by ((repeat' (first | (with_reducible exact Keeps.refl _) | (with_reducible assumption) | (with_reducible refine Keeps.drewN ?_ _) | (with_reducible refine Keeps.drew ?_) | (with_reducible refine Keeps.alloc ?_ _) | (with_reducible refine Keeps.setCell ?_ ?_ _) | (with_reducible refine Keeps.trans ?_ (After.keeps _)) | (with_reducible refine Keeps.trans ?_ (by with_reducible assumption)) | go_size)); (first | done | fail))⟩

/-- Slot's cell. -/
def cslotI (p k d s c b i : Int) : Int := atI (mayB p k d s c b) (3 + p + s) s i
theorem lcslot_c (p k d s c b i : Int) (w : World) : Calls Tryz.prog 39 #[.agg #[.int .i64 p, .int .i64 k, .int .i64 d, .int .i64 s, .int .i64 c, .int .i64 b], .int .i64 i] w fun e w' => e = .returned (.int .i64 (cslotI p k d s c b i)) ∧ Keeps w w' := by
  cases h : mayB p k d s c b with
  | false =>
    have e : cslotI p k d s c b i = -1 := atI_f (.inl h)
    rw [e]
    go_enter Tryz.func39, Tryz.ntmps39
    go_wp2_with (go_at_call 76; refine (cell_no _ _ _ _ _ _ _ _ _ h).mono ?_; rintro e w' ⟨rfl, h1⟩)
    go_ret
    exact ⟨rfl, by ((repeat' (first | (with_reducible exact Keeps.refl _) | (with_reducible assumption) | (with_reducible refine Keeps.drewN ?_ _) | (with_reducible refine Keeps.drew ?_) | (with_reducible refine Keeps.alloc ?_ _) | (with_reducible refine Keeps.setCell ?_ ?_ _) | (with_reducible refine Keeps.trans ?_ (After.keeps _)) | (with_reducible refine Keeps.trans ?_ (by with_reducible assumption)) | go_size)); (first | done | fail))⟩
  | true =>
    by_cases hi : 0 ≤ i ∧ i < s
    · obtain ⟨i0, i1⟩ := hi
      have e : cslotI p k d s c b i = (3 + p + s) + i := atI_t h i0 i1
      rw [e]
      clear e
      go_enter Tryz.func39, Tryz.ntmps39
      go_wp2_with (go_at_call 76; refine (cell5_t _ _ _ _ _ _ _ _ h i0 i1).mono ?_; rintro e w' ⟨rfl, h1⟩)
      go_ret
      exact ⟨rfl, by ((repeat' (first | (with_reducible exact Keeps.refl _) | (with_reducible assumption) | (with_reducible refine Keeps.drewN ?_ _) | (with_reducible refine Keeps.drew ?_) | (with_reducible refine Keeps.alloc ?_ _) | (with_reducible refine Keeps.setCell ?_ ?_ _) | (with_reducible refine Keeps.trans ?_ (After.keeps _)) | (with_reducible refine Keeps.trans ?_ (by with_reducible assumption)) | go_size)); (first | done | fail))⟩
    · have hi2 : i < 0 ∨ s ≤ i := by omega
      have e : cslotI p k d s c b i = -1 := atI_f (.inr hi2)
      rw [e]
      clear e hi
      go_enter Tryz.func39, Tryz.ntmps39
      go_wp2_with (go_at_call 76; refine (cell5_f _ _ _ _ _ _ _ _ h hi2).mono ?_; rintro e w' ⟨rfl, h1⟩)
      go_ret
      exact ⟨rfl, by ((repeat' (first | (with_reducible exact Keeps.refl _) | (with_reducible assumption) | (with_reducible refine Keeps.drewN ?_ _) | (with_reducible refine Keeps.drew ?_) | (with_reducible refine Keeps.alloc ?_ _) | (with_reducible refine Keeps.setCell ?_ ?_ _) | (with_reducible refine Keeps.trans ?_ (After.keeps _)) | (with_reducible refine Keeps.trans ?_ (by with_reducible assumption)) | go_size)); (first | done | fail))⟩
theorem rcslot_c (p k d s c b i : Int) (w : World) : Calls Tryz.prog 91 #[.agg #[.int .i64 p, .int .i64 k, .int .i64 d, .int .i64 s, .int .i64 c, .int .i64 b], .int .i64 i] w fun e w' => e = .returned (.int .i64 (cslotI p k d s c b i)) ∧ Keeps w w' := by
  cases h : mayB p k d s c b with
  | false =>
    have e : cslotI p k d s c b i = -1 := atI_f (.inl h)
    rw [e]
    go_enter Tryz.func91, Tryz.ntmps91
    go_wp2_with (go_at_call 94; refine (rat_no _ _ _ _ _ _ _ _ _ _ h).mono ?_; rintro e w' ⟨rfl, h1⟩)
    go_ret
    exact ⟨rfl, by ((repeat' (first | (with_reducible exact Keeps.refl _) | (with_reducible assumption) | (with_reducible refine Keeps.drewN ?_ _) | (with_reducible refine Keeps.drew ?_) | (with_reducible refine Keeps.alloc ?_ _) | (with_reducible refine Keeps.setCell ?_ ?_ _) | (with_reducible refine Keeps.trans ?_ (After.keeps _)) | (with_reducible refine Keeps.trans ?_ (by with_reducible assumption)) | go_size)); (first | done | fail))⟩
  | true =>
    obtain ⟨⟨p0, p1⟩, ⟨k0, k1⟩, ⟨d0, d1⟩, -, ⟨s0, s1⟩, ⟨c0, c1⟩, b0, b1⟩ := mayB_true.1 h
    by_cases hi : 0 ≤ i ∧ i < s
    · obtain ⟨i0, i1⟩ := hi
      have e : cslotI p k d s c b i = (3 + p + s) + i := atI_t h i0 i1
      rw [show (3 + p + s) + i = (3 + p + s) + i from by omega] at e
      rw [e]
      clear e
      go_enter Tryz.func91, Tryz.ntmps91
      go_wp2_with (go_at_call 94; refine (rat_in _ _ _ _ _ _ _ _ _ _ h i0 i1 (by omega) (by omega) (by omega)).mono ?_; rintro e w' ⟨rfl, h1⟩)
      go_ret
      exact ⟨rfl, by ((repeat' (first | (with_reducible exact Keeps.refl _) | (with_reducible assumption) | (with_reducible refine Keeps.drewN ?_ _) | (with_reducible refine Keeps.drew ?_) | (with_reducible refine Keeps.alloc ?_ _) | (with_reducible refine Keeps.setCell ?_ ?_ _) | (with_reducible refine Keeps.trans ?_ (After.keeps _)) | (with_reducible refine Keeps.trans ?_ (by with_reducible assumption)) | go_size)); (first | done | fail))⟩
    · have hi2 : i < 0 ∨ s ≤ i := by omega
      have e : cslotI p k d s c b i = -1 := atI_f (.inr hi2)
      rw [e]
      clear e hi
      go_enter Tryz.func91, Tryz.ntmps91
      go_wp2_with (go_at_call 94; refine (rat_out _ _ _ _ _ _ _ _ _ _ h hi2).mono ?_; rintro e w' ⟨rfl, h1⟩)
      go_ret
      exact ⟨rfl, by ((repeat' (first | (with_reducible exact Keeps.refl _) | (with_reducible assumption) | (with_reducible refine Keeps.drewN ?_ _) | (with_reducible refine Keeps.drew ?_) | (with_reducible refine Keeps.alloc ?_ _) | (with_reducible refine Keeps.setCell ?_ ?_ _) | (with_reducible refine Keeps.trans ?_ (After.keeps _)) | (with_reducible refine Keeps.trans ?_ (by with_reducible assumption)) | go_size)); (first | done | fail))⟩

/-- Link's cell. -/
def clinkI (p k d s c b i : Int) : Int := atI (mayB p k d s c b) (3 + p + s + s) k i
theorem rclink_c (p k d s c b i : Int) (w : World) : Calls Tryz.prog 50 #[.agg #[.int .i64 p, .int .i64 k, .int .i64 d, .int .i64 s, .int .i64 c, .int .i64 b], .int .i64 i] w fun e w' => e = .returned (.int .i64 (clinkI p k d s c b i)) ∧ Keeps w w' := by
  cases h : mayB p k d s c b with
  | false =>
    have e : clinkI p k d s c b i = -1 := atI_f (.inl h)
    rw [e]
    go_enter Tryz.func50, Tryz.ntmps50
    go_wp2_with (go_at_call 94; refine (rat_no _ _ _ _ _ _ _ _ _ _ h).mono ?_; rintro e w' ⟨rfl, h1⟩)
    go_ret
    exact ⟨rfl, by ((repeat' (first | (with_reducible exact Keeps.refl _) | (with_reducible assumption) | (with_reducible refine Keeps.drewN ?_ _) | (with_reducible refine Keeps.drew ?_) | (with_reducible refine Keeps.alloc ?_ _) | (with_reducible refine Keeps.setCell ?_ ?_ _) | (with_reducible refine Keeps.trans ?_ (After.keeps _)) | (with_reducible refine Keeps.trans ?_ (by with_reducible assumption)) | go_size)); (first | done | fail))⟩
  | true =>
    obtain ⟨⟨p0, p1⟩, ⟨k0, k1⟩, ⟨d0, d1⟩, -, ⟨s0, s1⟩, ⟨c0, c1⟩, b0, b1⟩ := mayB_true.1 h
    by_cases hi : 0 ≤ i ∧ i < k
    · obtain ⟨i0, i1⟩ := hi
      have e : clinkI p k d s c b i = (3 + p + s + s) + i := atI_t h i0 i1
      rw [show (3 + p + s + s) + i = (3 + p + 2 * s) + i from by omega] at e
      rw [e]
      clear e
      go_enter Tryz.func50, Tryz.ntmps50
      go_wp2_with (go_at_call 94; refine (rat_in _ _ _ _ _ _ _ _ _ _ h i0 i1 (by omega) (by omega) (by omega)).mono ?_; rintro e w' ⟨rfl, h1⟩)
      go_ret
      exact ⟨rfl, by ((repeat' (first | (with_reducible exact Keeps.refl _) | (with_reducible assumption) | (with_reducible refine Keeps.drewN ?_ _) | (with_reducible refine Keeps.drew ?_) | (with_reducible refine Keeps.alloc ?_ _) | (with_reducible refine Keeps.setCell ?_ ?_ _) | (with_reducible refine Keeps.trans ?_ (After.keeps _)) | (with_reducible refine Keeps.trans ?_ (by with_reducible assumption)) | go_size)); (first | done | fail))⟩
    · have hi2 : i < 0 ∨ k ≤ i := by omega
      have e : clinkI p k d s c b i = -1 := atI_f (.inr hi2)
      rw [e]
      clear e hi
      go_enter Tryz.func50, Tryz.ntmps50
      go_wp2_with (go_at_call 94; refine (rat_out _ _ _ _ _ _ _ _ _ _ h hi2).mono ?_; rintro e w' ⟨rfl, h1⟩)
      go_ret
      exact ⟨rfl, by ((repeat' (first | (with_reducible exact Keeps.refl _) | (with_reducible assumption) | (with_reducible refine Keeps.drewN ?_ _) | (with_reducible refine Keeps.drew ?_) | (with_reducible refine Keeps.alloc ?_ _) | (with_reducible refine Keeps.setCell ?_ ?_ _) | (with_reducible refine Keeps.trans ?_ (After.keeps _)) | (with_reducible refine Keeps.trans ?_ (by with_reducible assumption)) | go_size)); (first | done | fail))⟩

end Go.Proofs.YtaecapjicphdkaaGreat
