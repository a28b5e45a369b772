/- The laws on words: each walked, by the contracts of what it calls. -/
import Derived.Test.YtendglgcimdcpaaRefWordW
namespace Go.Proofs.Ytendglgcimdcpaa
set_option linter.unusedVariables false
set_option linter.unusedSimpArgs false
open Go Go.RowKit
set_option maxRecDepth 100000

theorem wfirst_c (w : World) : Calls Try.prog 32 #[] w fun e w' => e = .returned (.bool true) ∧ Keeps w w' := by
  have A1 : Hid (headI 4 2 = 8589934597) := by show headI 4 2 = 8589934597; decide +kernel
  have A2 : Hid (headB 4 2 = true) := by show headB 4 2 = true; decide +kernel
  have A3 : Hid (pinI 5 = 11) := by show pinI 5 = 11; decide +kernel
  have A4 : Hid (withinB 5 0 4611686018427387903 = true) := by show withinB 5 0 4611686018427387903 = true; decide +kernel
  have A5 : Hid (pinGet 11 = 5) := by show pinGet 11 = 5; decide +kernel
  go_enter Try.func32, Try.ntmps32
  go_wp2_with (first
    | (go_at_call 38; refine (putHead_c _ _ _).mono ?_; rintro e w' ⟨rfl, h1⟩; rw [A1.out, A2.out])
    | (go_at_call 40; refine (putPin_c _ _).mono ?_; rintro e w' ⟨rfl, k, rfl⟩; rw [A3.out, A4.out])
    | (go_at_call 41; refine (getPin_c _ _ (by omega) (by omega)).mono ?_; rintro e w' ⟨rfl, k2, rfl⟩; rw [A5.out])
    | (go_at_call 42; refine (getHead_c _ _ (by omega) (by omega)).mono ?_; rintro e w' ⟨rfl, h2⟩))
  go_ret
  exact ⟨rfl, by (repeat' (first | (with_reducible exact Keeps.refl _) | (with_reducible assumption) | (with_reducible refine Keeps.drewN ?_ _) | (with_reducible refine Keeps.drew ?_) | (with_reducible refine Keeps.alloc ?_ _) | (with_reducible refine Keeps.setCell ?_ ?_ _) | (with_reducible refine Keeps.trans ?_ (After.keeps _)) | (with_reducible refine Keeps.trans ?_ (by with_reducible assumption)) | go_size))⟩

set_option maxHeartbeats 1000000 in
theorem wordLives_c (g m c o x : Int) (w : World) (h1 : m ≤ 9223372036854775807) : Calls Try.prog 9 #[.agg #[.int .i64 g, .int .i64 m, .int .i64 c, .int .i64 o], .int .i64 x] w fun e w' => e = .returned (.bool true) ∧ Keeps w w' := by
  have e1 : (decide (1 ≤ m) && (g == g)) = decide (1 ≤ m) := by simp
  have e2 : decide (chunkI m < 0) = decide (m < 2) := by unfold chunkI; apply decide_eq_decide.2; split <;> omega
  have e3 : liveB g m g = decide (1 ≤ m) := e1
  clear e1
  have Z := Live.nil w.heap.size
  go_enter Try.func9, Try.ntmps9
  go_wp2_with (first
    | (go_at_call 32; refine (wfirst_c _).mono ?_; rintro e w' ⟨rfl, h1⟩; have hc_ := fun (b o : Nat) (hb : b < _) => (h1).cell (b := b) (o := o) hb; have hf_ := fun (b o : Nat) (hb : b < _) => (h1).frozen (b := b) (o := o) hb; have hs_ := (h1).size; (try simp only [World.size_alloc, World.heap_drewN, World.size_drew, World.size_setCell] at hs_); (first | (with_reducible replace Z := Live.step0 Z hs_) | (with_reducible replace Z := Live.step1 Z hs_) | (with_reducible replace Z := Live.step2 Z hs_) | (with_reducible replace Z := Live.step3 Z hs_) | (with_reducible replace Z := Live.step4 Z hs_)); have z_ := Z; simp only [Live, List.forall_mem_cons, List.not_mem_nil, false_imp_iff, implies_true, and_true] at z_)
    | (go_at_call 33; refine (live_c _ _ _ _ _ _).mono ?_; rintro e w' ⟨rfl, h2⟩; have hc_ := fun (b o : Nat) (hb : b < _) => (h2).cell (b := b) (o := o) hb; have hf_ := fun (b o : Nat) (hb : b < _) => (h2).frozen (b := b) (o := o) hb; have hs_ := (h2).size; (try simp only [World.size_alloc, World.heap_drewN, World.size_drew, World.size_setCell] at hs_); (first | (with_reducible replace Z := Live.step0 Z hs_) | (with_reducible replace Z := Live.step1 Z hs_) | (with_reducible replace Z := Live.step2 Z hs_) | (with_reducible replace Z := Live.step3 Z hs_) | (with_reducible replace Z := Live.step4 Z hs_)); have z_ := Z; simp only [Live, List.forall_mem_cons, List.not_mem_nil, false_imp_iff, implies_true, and_true] at z_)
    | (go_at_call 34; refine (rlive_c _ _ _ _ _ _).mono ?_; rintro e w' ⟨rfl, h3⟩; have hc_ := fun (b o : Nat) (hb : b < _) => (h3).cell (b := b) (o := o) hb; have hf_ := fun (b o : Nat) (hb : b < _) => (h3).frozen (b := b) (o := o) hb; have hs_ := (h3).size; (try simp only [World.size_alloc, World.heap_drewN, World.size_drew, World.size_setCell] at hs_); (first | (with_reducible replace Z := Live.step0 Z hs_) | (with_reducible replace Z := Live.step1 Z hs_) | (with_reducible replace Z := Live.step2 Z hs_) | (with_reducible replace Z := Live.step3 Z hs_) | (with_reducible replace Z := Live.step4 Z hs_)); have z_ := Z; simp only [Live, List.forall_mem_cons, List.not_mem_nil, false_imp_iff, implies_true, and_true] at z_)
    | (go_at_call 35; refine (chunk_c _ _ _ _ _ (by omega)).mono ?_; rintro e w' ⟨rfl, h4⟩; have hc_ := fun (b o : Nat) (hb : b < _) => (h4).cell (b := b) (o := o) hb; have hf_ := fun (b o : Nat) (hb : b < _) => (h4).frozen (b := b) (o := o) hb; have hs_ := (h4).size; (try simp only [World.size_alloc, World.heap_drewN, World.size_drew, World.size_setCell] at hs_); (first | (with_reducible replace Z := Live.step0 Z hs_) | (with_reducible replace Z := Live.step1 Z hs_) | (with_reducible replace Z := Live.step2 Z hs_) | (with_reducible replace Z := Live.step3 Z hs_) | (with_reducible replace Z := Live.step4 Z hs_)); have z_ := Z; simp only [Live, List.forall_mem_cons, List.not_mem_nil, false_imp_iff, implies_true, and_true] at z_)
    | (go_at_call 36; refine (rchunk_c _ _ _ _ _ (by omega)).mono ?_; rintro e w' ⟨rfl, h5⟩; have hc_ := fun (b o : Nat) (hb : b < _) => (h5).cell (b := b) (o := o) hb; have hf_ := fun (b o : Nat) (hb : b < _) => (h5).frozen (b := b) (o := o) hb; have hs_ := (h5).size; (try simp only [World.size_alloc, World.heap_drewN, World.size_drew, World.size_setCell] at hs_); (first | (with_reducible replace Z := Live.step0 Z hs_) | (with_reducible replace Z := Live.step1 Z hs_) | (with_reducible replace Z := Live.step2 Z hs_) | (with_reducible replace Z := Live.step3 Z hs_) | (with_reducible replace Z := Live.step4 Z hs_)); have z_ := Z; simp only [Live, List.forall_mem_cons, List.not_mem_nil, false_imp_iff, implies_true, and_true] at z_))
  (refine wp_region_after_lit (by kernel_rfl) (by kernel_rfl) ?_; (repeat (first | go_big_quiet_step ((first | (go_at_call 33; exact calls_after (live_c _ _ _ _ _ _)) | (go_at_call 34; exact calls_after (rlive_c _ _ _ _ _ _)) | (go_at_call 35; exact calls_after (chunk_c _ _ _ _ _ (by omega))) | (go_at_call 36; exact calls_after (rchunk_c _ _ _ _ _ (by omega))))) | ((with_reducible refine wpQuiet_step (fun K hK => ?_)); go_simp; first | (refine hK _ ?_; clear hK K) | (apply Exists.intro; refine ⟨fun _ => ?_, hK _ ?_⟩; (first | (go_at_call 33; exact calls_after (live_c _ _ _ _ _ _)) | (go_at_call 34; exact calls_after (rlive_c _ _ _ _ _ _)) | (go_at_call 35; exact calls_after (chunk_c _ _ _ _ _ (by omega))) | (go_at_call 36; exact calls_after (rchunk_c _ _ _ _ _ (by omega)))); clear hK K)))); refine wpQuiet_nil ?_; intro _ hw'; obtain ⟨uq, hw''⟩ := hw'; subst hw'')
  go_wp2
  go_ret
  exact ⟨rfl, by (repeat' (first | (with_reducible exact Keeps.refl _) | (with_reducible assumption) | (with_reducible refine Keeps.drewN ?_ _) | (with_reducible refine Keeps.drew ?_) | (with_reducible refine Keeps.alloc ?_ _) | (with_reducible refine Keeps.setCell ?_ ?_ _) | (with_reducible refine Keeps.trans ?_ (After.keeps _)) | (with_reducible refine Keeps.trans ?_ (by with_reducible assumption)) | go_size))⟩

end Go.Proofs.Ytendglgcimdcpaa
