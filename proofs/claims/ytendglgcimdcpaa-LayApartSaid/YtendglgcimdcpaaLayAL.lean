/- The law LayApart, walked. -/
import Derived.Test.YtendglgcimdcpaaLayAC
namespace Go.Proofs.Ytendglgcimdcpaa
set_option linter.unusedVariables false
set_option linter.unusedSimpArgs false
open Go Go.RowKit
set_option maxRecDepth 100000


set_option maxHeartbeats 4000000 in
theorem layApart_c (n a0 a1 a2 b0 b1 b2 : Int) (w : World) : Calls Try.prog 16 #[.int .i64 n, .agg #[.int .i64 a0, .int .i64 a1, .int .i64 a2], .agg #[.int .i64 b0, .int .i64 b1, .int .i64 b2]] w fun e w' => e = .returned (.bool true) ∧ Keeps w w' := by
  go_enter Try.func16, Try.ntmps16
  go_upto_region 5 with (first
    | (go_at_call 27; refine (lfirst_c _).mono ?_; rintro e w' ⟨rfl, hf⟩)
    | (go_at_call 63; refine (config_c _ _).mono ?_; rintro e w' ⟨p, k, d, s, c, b, rfl, hb, hc⟩; have HM := Lib.hid (conf_may hb); have hl := len_bd HM.out; obtain ⟨l0, l1⟩ := hl))
  have hX : ∀ (u : After (w'.alloc (.cells #[.int .i64 p, .int .i64 k, .int .i64 d, .int .i64 s, .int .i64 c, .int .i64 b] 34))), u.world.cell? ⟨w.heap.size, 0, none⟩ = some (.int .i64 a0) ∧ u.world.cell? ⟨w.heap.size, 1, none⟩ = some (.int .i64 a1) ∧ u.world.cell? ⟨w.heap.size, 2, none⟩ = some (.int .i64 a2) ∧ u.world.cell? ⟨w.heap.size + 1, 0, none⟩ = some (.int .i64 b0) ∧ u.world.cell? ⟨w.heap.size + 1, 1, none⟩ = some (.int .i64 b1) ∧ u.world.cell? ⟨w.heap.size + 1, 2, none⟩ = some (.int .i64 b2) ∧ u.world.cell? ⟨w'.heap.size, 0, none⟩ = some (.int .i64 p) ∧ u.world.cell? ⟨w'.heap.size, 1, none⟩ = some (.int .i64 k) ∧ u.world.cell? ⟨w'.heap.size, 2, none⟩ = some (.int .i64 d) ∧ u.world.cell? ⟨w'.heap.size, 3, none⟩ = some (.int .i64 s) ∧ u.world.cell? ⟨w'.heap.size, 4, none⟩ = some (.int .i64 c) ∧ u.world.cell? ⟨w'.heap.size, 5, none⟩ = some (.int .i64 b) := by
    intro u
    have K : Keeps ((w.alloc (.cells #[.int .i64 a0, .int .i64 a1, .int .i64 a2] 74)).alloc (.cells #[.int .i64 b0, .int .i64 b1, .int .i64 b2] 74)) u.world := by (repeat' (first | (with_reducible exact Keeps.refl _) | (with_reducible assumption) | (with_reducible refine Keeps.drewN ?_ _) | (with_reducible refine Keeps.drew ?_) | (with_reducible refine Keeps.alloc ?_ _) | (with_reducible refine Keeps.setCell ?_ ?_ _) | (with_reducible refine Keeps.trans ?_ (After.keeps _)) | (with_reducible refine Keeps.trans ?_ (by with_reducible assumption)) | go_size))
    have h1 := ((Has.new w #[.int .i64 a0, .int .i64 a1, .int .i64 a2] 74).alloc (.cells #[.int .i64 b0, .int .i64 b1, .int .i64 b2] 74)).keeps K
    have h2 := (Has.new1 w (.cells #[.int .i64 a0, .int .i64 a1, .int .i64 a2] 74) #[.int .i64 b0, .int .i64 b1, .int .i64 b2] 74).keeps K
    have h3 := (Has.new w' #[.int .i64 p, .int .i64 k, .int .i64 d, .int .i64 s, .int .i64 c, .int .i64 b] 34).keeps u.keeps
    exact ⟨h1.cell 0, h1.cell 1, h1.cell 2, h2.cell 0, h2.cell 1, h2.cell 2, h3.cell 0, h3.cell 1, h3.cell 2, h3.cell 3, h3.cell 4, h3.cell 5⟩
  (refine wp_region_after_lit (by kernel_rfl) (by kernel_rfl) ?_; (try simp only [List.append_eq, List.cons_append, List.nil_append]); (repeat (first | go_big_quiet_step (((go_at_call 64; exact calls_after (lcell_c _ _ _ _ _ _ _ _ _ _ HM.out)))) | ((with_reducible refine wpQuiet_step (fun K hK => ?_)); go_simp; first | (refine hK _ ?_; clear hK K) | (apply Exists.intro; refine ⟨fun _ => ?_, hK _ ?_⟩; ((go_at_call 64; exact calls_after (lcell_c _ _ _ _ _ _ _ _ _ _ HM.out))); clear hK K) | (refine ⟨.bool false, fun _ => ?_, hK _ ?_⟩; (simp; done); clear hK K) | (refine ⟨.bool true, fun _ => ?_, hK _ ?_⟩; (simp; done); clear hK K)))); refine wpQuiet_nil ?_; intro _ hw'; obtain ⟨uq, hw''⟩ := hw'; subst hw'')
  have hX' := hX uq
  have HK := Lib.hid uq.keeps
  have hx := cellF_bd a0 a1 a2 HM.out
  have hy := cellF_bd b0 b1 b2 HM.out
  have hi := what_inj HM.out hx.1 hx.2 hy.1 hy.2
  have hp := what_pos HM.out hx.1 hx.2
  have hq := what_pos HM.out hy.1 hy.2
  generalize cellF p k d s c b a0 a1 a2 = x at *
  generalize cellF p k d s c b b0 b1 b2 = y at *
  obtain ⟨hx0, hx1⟩ := hx
  obtain ⟨hy0, hy1⟩ := hy
  have HI := Lib.hid hi
  clear hi hX
  have Z := Live.step1 (Live.nil w'.heap.size) (show w'.heap.size + 1 ≤ uq.world.heap.size from by have := uq.keeps.size; simpa using this)
  have zz := Z
  simp only [Live, List.forall_mem_cons, List.not_mem_nil, false_imp_iff, implies_true, and_true] at zz
  have KU := uq.keeps
  by_cases hxy : x = y
  · subst hxy
    go_wp2_with (first
      | (go_at_call 51; refine (what_c _ _ _ _ _ _ _ _ (by omega)).mono ?_; rintro e w' ⟨rfl, h1⟩; have hc_ := fun (b o : Nat) (hb : b < _) => (h1).cell (b := b) (o := o) hb; have hf_ := fun (b o : Nat) (hb : b < _) => (h1).frozen (b := b) (o := o) hb; have hs_ := (h1).size; (try simp only [World.size_alloc, World.heap_drewN, World.size_drew, World.size_setCell] at hs_); (first | (with_reducible replace Z := Live.step0 Z hs_) | (with_reducible replace Z := Live.step1 Z hs_) | (with_reducible replace Z := Live.step2 Z hs_) | (with_reducible replace Z := Live.step3 Z hs_) | (with_reducible replace Z := Live.step4 Z hs_)); have z_ := Z; simp only [Live, List.forall_mem_cons, List.not_mem_nil, false_imp_iff, implies_true, and_true] at z_)
      | (go_at_call 29; refine (len_c _ _ _ _ _ _ _).mono ?_; rintro e w' ⟨rfl, h1⟩; have hc_ := fun (b o : Nat) (hb : b < _) => (h1).cell (b := b) (o := o) hb; have hf_ := fun (b o : Nat) (hb : b < _) => (h1).frozen (b := b) (o := o) hb; have hs_ := (h1).size; (try simp only [World.size_alloc, World.heap_drewN, World.size_drew, World.size_setCell] at hs_); (first | (with_reducible replace Z := Live.step0 Z hs_) | (with_reducible replace Z := Live.step1 Z hs_) | (with_reducible replace Z := Live.step2 Z hs_) | (with_reducible replace Z := Live.step3 Z hs_) | (with_reducible replace Z := Live.step4 Z hs_)); have z_ := Z; simp only [Live, List.forall_mem_cons, List.not_mem_nil, false_imp_iff, implies_true, and_true] at z_))
    go_ret
    exact ⟨rfl, by (repeat' (first | (with_reducible exact Keeps.refl _) | (with_reducible assumption) | (with_reducible refine Keeps.drewN ?_ _) | (with_reducible refine Keeps.drew ?_) | (with_reducible refine Keeps.alloc ?_ _) | (with_reducible refine Keeps.setCell ?_ ?_ _) | (with_reducible refine Keeps.trans ?_ (After.keeps _)) | (with_reducible refine Keeps.trans ?_ (by with_reducible assumption)) | go_size))⟩
  · have exy : (x == y) = false := by simpa using hxy
    have hne : whatI p k d s c b x ≠ whatI p k d s c b y := fun h => hxy (HI.out h)
    go_upto_region 8 with (first
      | (go_at_call 51; refine (what_c _ _ _ _ _ _ _ _ (by omega)).mono ?_; rintro e w' ⟨rfl, h1⟩; have hc_ := fun (b o : Nat) (hb : b < _) => (h1).cell (b := b) (o := o) hb; have hf_ := fun (b o : Nat) (hb : b < _) => (h1).frozen (b := b) (o := o) hb; have hs_ := (h1).size; (try simp only [World.size_alloc, World.heap_drewN, World.size_drew, World.size_setCell] at hs_); (first | (with_reducible replace Z := Live.step0 Z hs_) | (with_reducible replace Z := Live.step1 Z hs_) | (with_reducible replace Z := Live.step2 Z hs_) | (with_reducible replace Z := Live.step3 Z hs_) | (with_reducible replace Z := Live.step4 Z hs_)); have z_ := Z; simp only [Live, List.forall_mem_cons, List.not_mem_nil, false_imp_iff, implies_true, and_true] at z_)
      | (go_at_call 29; refine (len_c _ _ _ _ _ _ _).mono ?_; rintro e w' ⟨rfl, h1⟩; have hc_ := fun (b o : Nat) (hb : b < _) => (h1).cell (b := b) (o := o) hb; have hf_ := fun (b o : Nat) (hb : b < _) => (h1).frozen (b := b) (o := o) hb; have hs_ := (h1).size; (try simp only [World.size_alloc, World.heap_drewN, World.size_drew, World.size_setCell] at hs_); (first | (with_reducible replace Z := Live.step0 Z hs_) | (with_reducible replace Z := Live.step1 Z hs_) | (with_reducible replace Z := Live.step2 Z hs_) | (with_reducible replace Z := Live.step3 Z hs_) | (with_reducible replace Z := Live.step4 Z hs_)); have z_ := Z; simp only [Live, List.forall_mem_cons, List.not_mem_nil, false_imp_iff, implies_true, and_true] at z_))
    clear HI
    generalize whatI p k d s c b x = P at *
    generalize whatI p k d s c b y = Q at *
    obtain ⟨P1, P2, P3⟩ := P
    obtain ⟨Q1, Q2, Q3⟩ := Q
    simp only at hp hq
    have hp2 : 0 < P1 := by omega
    have hq2 : 0 < Q1 := by omega
    by_cases e1 : P1 = Q1
    · subst e1
      by_cases e2 : P2 = Q2
      · subst e2
        have e3 : ¬ P3 = Q3 := fun h => hne (by rw [h])
        have f3 : (P3 == Q3) = false := by simpa using e3
        clear hne
        go_wp2_with (go_at_call 29; refine (len_c _ _ _ _ _ _ _).mono ?_; rintro e w' ⟨rfl, h1⟩; have hc_ := fun (b o : Nat) (hb : b < _) => (h1).cell (b := b) (o := o) hb; have hf_ := fun (b o : Nat) (hb : b < _) => (h1).frozen (b := b) (o := o) hb; have hs_ := (h1).size; (try simp only [World.size_alloc, World.heap_drewN, World.size_drew, World.size_setCell] at hs_); (first | (with_reducible replace Z := Live.step0 Z hs_) | (with_reducible replace Z := Live.step1 Z hs_) | (with_reducible replace Z := Live.step2 Z hs_) | (with_reducible replace Z := Live.step3 Z hs_) | (with_reducible replace Z := Live.step4 Z hs_)); have z_ := Z; simp only [Live, List.forall_mem_cons, List.not_mem_nil, false_imp_iff, implies_true, and_true] at z_)
        go_ret
        exact ⟨rfl, by (repeat' (first | (with_reducible exact Keeps.refl _) | (with_reducible assumption) | (with_reducible refine Keeps.drewN ?_ _) | (with_reducible refine Keeps.drew ?_) | (with_reducible refine Keeps.alloc ?_ _) | (with_reducible refine Keeps.setCell ?_ ?_ _) | (with_reducible refine Keeps.trans ?_ (After.keeps _)) | (with_reducible refine Keeps.trans ?_ (by with_reducible assumption)) | go_size))⟩
      · have f2 : (P2 == Q2) = false := by simpa using e2
        clear hne
        go_wp2_with (go_at_call 29; refine (len_c _ _ _ _ _ _ _).mono ?_; rintro e w' ⟨rfl, h1⟩; have hc_ := fun (b o : Nat) (hb : b < _) => (h1).cell (b := b) (o := o) hb; have hf_ := fun (b o : Nat) (hb : b < _) => (h1).frozen (b := b) (o := o) hb; have hs_ := (h1).size; (try simp only [World.size_alloc, World.heap_drewN, World.size_drew, World.size_setCell] at hs_); (first | (with_reducible replace Z := Live.step0 Z hs_) | (with_reducible replace Z := Live.step1 Z hs_) | (with_reducible replace Z := Live.step2 Z hs_) | (with_reducible replace Z := Live.step3 Z hs_) | (with_reducible replace Z := Live.step4 Z hs_)); have z_ := Z; simp only [Live, List.forall_mem_cons, List.not_mem_nil, false_imp_iff, implies_true, and_true] at z_)
        go_ret
        exact ⟨rfl, by (repeat' (first | (with_reducible exact Keeps.refl _) | (with_reducible assumption) | (with_reducible refine Keeps.drewN ?_ _) | (with_reducible refine Keeps.drew ?_) | (with_reducible refine Keeps.alloc ?_ _) | (with_reducible refine Keeps.setCell ?_ ?_ _) | (with_reducible refine Keeps.trans ?_ (After.keeps _)) | (with_reducible refine Keeps.trans ?_ (by with_reducible assumption)) | go_size))⟩
    · have f1 : (P1 == Q1) = false := by simpa using e1
      have f2 : ¬ (P1 = Q1 ∧ P2 = Q2) := fun h => e1 h.1
      clear hne
      clear f2
      go_wp2_with (go_at_call 29; refine (len_c _ _ _ _ _ _ _).mono ?_; rintro e w' ⟨rfl, h1⟩; have hc_ := fun (b o : Nat) (hb : b < _) => (h1).cell (b := b) (o := o) hb; have hf_ := fun (b o : Nat) (hb : b < _) => (h1).frozen (b := b) (o := o) hb; have hs_ := (h1).size; (try simp only [World.size_alloc, World.heap_drewN, World.size_drew, World.size_setCell] at hs_); (first | (with_reducible replace Z := Live.step0 Z hs_) | (with_reducible replace Z := Live.step1 Z hs_) | (with_reducible replace Z := Live.step2 Z hs_) | (with_reducible replace Z := Live.step3 Z hs_) | (with_reducible replace Z := Live.step4 Z hs_)); have z_ := Z; simp only [Live, List.forall_mem_cons, List.not_mem_nil, false_imp_iff, implies_true, and_true] at z_)
      go_ret
      exact ⟨rfl, by (repeat' (first | (with_reducible exact Keeps.refl _) | (with_reducible assumption) | (with_reducible refine Keeps.drewN ?_ _) | (with_reducible refine Keeps.drew ?_) | (with_reducible refine Keeps.alloc ?_ _) | (with_reducible refine Keeps.setCell ?_ ?_ _) | (with_reducible refine Keeps.trans ?_ (After.keeps _)) | (with_reducible refine Keeps.trans ?_ (by with_reducible assumption)) | go_size))⟩
end Go.Proofs.Ytendglgcimdcpaa
