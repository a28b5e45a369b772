/- The law LayWhole, walked. -/
import Derived.Test.YtendglgcimdcpaaLayP
namespace Go.Proofs.Ytendglgcimdcpaa
set_option linter.unusedVariables false
set_option linter.unusedSimpArgs false
open Go Go.RowKit
set_option maxRecDepth 100000

set_option maxHeartbeats 2000000 in
theorem layWhole_c (n q : Int) (w : World) : Calls Try.prog 15 #[.int .i64 n, .int .i64 q] w fun e w' => e = .returned (.bool true) ∧ Keeps w w' := by
  go_enter Try.func15, Try.ntmps15
  go_upto_region 8 with (first
    | (go_at_call 27; refine (lfirst_c _).mono ?_; rintro e w' ⟨rfl, hf⟩)
    | (go_at_call 63; refine (config_c _ _).mono ?_; rintro e w' ⟨p, k, d, s, c, b, rfl, hb, hc⟩; have HM := Lib.hid (conf_may hb); have hl := len_bd HM.out; obtain ⟨l0, l1⟩ := hl; have Z := Live.nil w'.heap.size)
    | (go_at_call 29; refine (len_c _ _ _ _ _ _ _).mono ?_; rintro e w' ⟨rfl, h1⟩; have hc_ := fun (b o : Nat) (hb : b < _) => (h1).cell (b := b) (o := o) hb; have hf_ := fun (b o : Nat) (hb : b < _) => (h1).frozen (b := b) (o := o) hb; have hs_ := (h1).size; (try simp only [World.size_alloc, World.heap_drewN, World.size_drew, World.size_setCell] at hs_); (first | (with_reducible replace Z := Live.step0 Z hs_) | (with_reducible replace Z := Live.step1 Z hs_) | (with_reducible replace Z := Live.step2 Z hs_) | (with_reducible replace Z := Live.step3 Z hs_) | (with_reducible replace Z := Live.step4 Z hs_)); have z_ := Z; simp only [Live, List.forall_mem_cons, List.not_mem_nil, false_imp_iff, implies_true, and_true] at z_)
    | (go_at_call 26; refine (number_b _ _ _ (by omega) (by omega)).mono ?_; rintro e w' ⟨z, rfl, hz0, hz1, rfl⟩))
  have hcs := what_cases HM.out hz0 hz1
  rcases hcs with ⟨rfl, e⟩ | ⟨rfl, e⟩ | ⟨rfl, e⟩ | ⟨a, e, ex⟩ | ⟨a, e, ex⟩ | ⟨a, e, ex⟩ | ⟨a, e, ex⟩ | ⟨a, a', e, ex⟩
  all_goals have HW := Lib.hid e
  all_goals clear e
  · go_wp2_with (first
      | (go_at_call 51; refine (what_c _ _ _ _ _ _ _ _ (by omega)).mono ?_; rintro e w' ⟨rfl, h1⟩; rw [HW.out]; have hc_ := fun (b o : Nat) (hb : b < _) => (h1).cell (b := b) (o := o) hb; have hf_ := fun (b o : Nat) (hb : b < _) => (h1).frozen (b := b) (o := o) hb; have hs_ := (h1).size; (try simp only [World.size_alloc, World.heap_drewN, World.size_drew, World.size_setCell] at hs_); (first | (with_reducible replace Z := Live.step0 Z hs_) | (with_reducible replace Z := Live.step1 Z hs_) | (with_reducible replace Z := Live.step2 Z hs_) | (with_reducible replace Z := Live.step3 Z hs_) | (with_reducible replace Z := Live.step4 Z hs_)); have z_ := Z; simp only [Live, List.forall_mem_cons, List.not_mem_nil, false_imp_iff, implies_true, and_true] at z_)
      | (go_at_call 26; refine (number_c 0 2 _ (by omega) (by omega)).mono ?_; rintro e w' ⟨rfl, rfl⟩; rw [z02]))
    go_ret
    exact ⟨rfl, by (repeat' (first | (with_reducible exact Keeps.refl _) | (with_reducible assumption) | (with_reducible refine Keeps.drewN ?_ _) | (with_reducible refine Keeps.drew ?_) | (with_reducible refine Keeps.alloc ?_ _) | (with_reducible refine Keeps.setCell ?_ ?_ _) | (with_reducible refine Keeps.trans ?_ (After.keeps _)) | (with_reducible refine Keeps.trans ?_ (by with_reducible assumption)) | go_size))⟩
  · go_wp2_with (first
      | (go_at_call 51; refine (what_c _ _ _ _ _ _ _ _ (by omega)).mono ?_; rintro e w' ⟨rfl, h1⟩; rw [HW.out]; have hc_ := fun (b o : Nat) (hb : b < _) => (h1).cell (b := b) (o := o) hb; have hf_ := fun (b o : Nat) (hb : b < _) => (h1).frozen (b := b) (o := o) hb; have hs_ := (h1).size; (try simp only [World.size_alloc, World.heap_drewN, World.size_drew, World.size_setCell] at hs_); (first | (with_reducible replace Z := Live.step0 Z hs_) | (with_reducible replace Z := Live.step1 Z hs_) | (with_reducible replace Z := Live.step2 Z hs_) | (with_reducible replace Z := Live.step3 Z hs_) | (with_reducible replace Z := Live.step4 Z hs_)); have z_ := Z; simp only [Live, List.forall_mem_cons, List.not_mem_nil, false_imp_iff, implies_true, and_true] at z_)
      | (go_at_call 26; refine (number_c 1 2 _ (by omega) (by omega)).mono ?_; rintro e w' ⟨rfl, rfl⟩; rw [z12]))
    go_ret
    exact ⟨rfl, by (repeat' (first | (with_reducible exact Keeps.refl _) | (with_reducible assumption) | (with_reducible refine Keeps.drewN ?_ _) | (with_reducible refine Keeps.drew ?_) | (with_reducible refine Keeps.alloc ?_ _) | (with_reducible refine Keeps.setCell ?_ ?_ _) | (with_reducible refine Keeps.trans ?_ (After.keeps _)) | (with_reducible refine Keeps.trans ?_ (by with_reducible assumption)) | go_size))⟩
  · go_wp2_with (first
      | (go_at_call 51; refine (what_c _ _ _ _ _ _ _ _ (by omega)).mono ?_; rintro e w' ⟨rfl, h1⟩; rw [HW.out]; have hc_ := fun (b o : Nat) (hb : b < _) => (h1).cell (b := b) (o := o) hb; have hf_ := fun (b o : Nat) (hb : b < _) => (h1).frozen (b := b) (o := o) hb; have hs_ := (h1).size; (try simp only [World.size_alloc, World.heap_drewN, World.size_drew, World.size_setCell] at hs_); (first | (with_reducible replace Z := Live.step0 Z hs_) | (with_reducible replace Z := Live.step1 Z hs_) | (with_reducible replace Z := Live.step2 Z hs_) | (with_reducible replace Z := Live.step3 Z hs_) | (with_reducible replace Z := Live.step4 Z hs_)); have z_ := Z; simp only [Live, List.forall_mem_cons, List.not_mem_nil, false_imp_iff, implies_true, and_true] at z_))
    go_ret
    exact ⟨rfl, by (repeat' (first | (with_reducible exact Keeps.refl _) | (with_reducible assumption) | (with_reducible refine Keeps.drewN ?_ _) | (with_reducible refine Keeps.drew ?_) | (with_reducible refine Keeps.alloc ?_ _) | (with_reducible refine Keeps.setCell ?_ ?_ _) | (with_reducible refine Keeps.trans ?_ (After.keeps _)) | (with_reducible refine Keeps.trans ?_ (by with_reducible assumption)) | go_size))⟩

  · have HX := Lib.hid ex
    clear ex
    go_wp2_with (first
      | (go_at_call 51; refine (what_c _ _ _ _ _ _ _ _ (by omega)).mono ?_; rintro e w' ⟨rfl, h1⟩; rw [HW.out]; have hc_ := fun (b o : Nat) (hb : b < _) => (h1).cell (b := b) (o := o) hb; have hf_ := fun (b o : Nat) (hb : b < _) => (h1).frozen (b := b) (o := o) hb; have hs_ := (h1).size; (try simp only [World.size_alloc, World.heap_drewN, World.size_drew, World.size_setCell] at hs_); (first | (with_reducible replace Z := Live.step0 Z hs_) | (with_reducible replace Z := Live.step1 Z hs_) | (with_reducible replace Z := Live.step2 Z hs_) | (with_reducible replace Z := Live.step3 Z hs_) | (with_reducible replace Z := Live.step4 Z hs_)); have z_ := Z; simp only [Live, List.forall_mem_cons, List.not_mem_nil, false_imp_iff, implies_true, and_true] at z_)
      | (go_at_call 30; refine (lcpin_c _ _ _ _ _ _ _ _).mono ?_; rintro e w' ⟨rfl, h1⟩; rw [HX.out]))
    go_ret
    exact ⟨rfl, by (repeat' (first | (with_reducible exact Keeps.refl _) | (with_reducible assumption) | (with_reducible refine Keeps.drewN ?_ _) | (with_reducible refine Keeps.drew ?_) | (with_reducible refine Keeps.alloc ?_ _) | (with_reducible refine Keeps.setCell ?_ ?_ _) | (with_reducible refine Keeps.trans ?_ (After.keeps _)) | (with_reducible refine Keeps.trans ?_ (by with_reducible assumption)) | go_size))⟩
  · have HX := Lib.hid ex
    clear ex
    go_wp2_with (first
      | (go_at_call 51; refine (what_c _ _ _ _ _ _ _ _ (by omega)).mono ?_; rintro e w' ⟨rfl, h1⟩; rw [HW.out]; have hc_ := fun (b o : Nat) (hb : b < _) => (h1).cell (b := b) (o := o) hb; have hf_ := fun (b o : Nat) (hb : b < _) => (h1).frozen (b := b) (o := o) hb; have hs_ := (h1).size; (try simp only [World.size_alloc, World.heap_drewN, World.size_drew, World.size_setCell] at hs_); (first | (with_reducible replace Z := Live.step0 Z hs_) | (with_reducible replace Z := Live.step1 Z hs_) | (with_reducible replace Z := Live.step2 Z hs_) | (with_reducible replace Z := Live.step3 Z hs_) | (with_reducible replace Z := Live.step4 Z hs_)); have z_ := Z; simp only [Live, List.forall_mem_cons, List.not_mem_nil, false_imp_iff, implies_true, and_true] at z_)
      | (go_at_call 56; refine (lcroot_c _ _ _ _ _ _ _ _).mono ?_; rintro e w' ⟨rfl, h1⟩; rw [HX.out]))
    go_ret
    exact ⟨rfl, by (repeat' (first | (with_reducible exact Keeps.refl _) | (with_reducible assumption) | (with_reducible refine Keeps.drewN ?_ _) | (with_reducible refine Keeps.drew ?_) | (with_reducible refine Keeps.alloc ?_ _) | (with_reducible refine Keeps.setCell ?_ ?_ _) | (with_reducible refine Keeps.trans ?_ (After.keeps _)) | (with_reducible refine Keeps.trans ?_ (by with_reducible assumption)) | go_size))⟩
  · have HX := Lib.hid ex
    clear ex
    go_wp2_with (first
      | (go_at_call 51; refine (what_c _ _ _ _ _ _ _ _ (by omega)).mono ?_; rintro e w' ⟨rfl, h1⟩; rw [HW.out]; have hc_ := fun (b o : Nat) (hb : b < _) => (h1).cell (b := b) (o := o) hb; have hf_ := fun (b o : Nat) (hb : b < _) => (h1).frozen (b := b) (o := o) hb; have hs_ := (h1).size; (try simp only [World.size_alloc, World.heap_drewN, World.size_drew, World.size_setCell] at hs_); (first | (with_reducible replace Z := Live.step0 Z hs_) | (with_reducible replace Z := Live.step1 Z hs_) | (with_reducible replace Z := Live.step2 Z hs_) | (with_reducible replace Z := Live.step3 Z hs_) | (with_reducible replace Z := Live.step4 Z hs_)); have z_ := Z; simp only [Live, List.forall_mem_cons, List.not_mem_nil, false_imp_iff, implies_true, and_true] at z_)
      | (go_at_call 58; refine (lcslot_c _ _ _ _ _ _ _ _).mono ?_; rintro e w' ⟨rfl, h1⟩; rw [HX.out]))
    go_ret
    exact ⟨rfl, by (repeat' (first | (with_reducible exact Keeps.refl _) | (with_reducible assumption) | (with_reducible refine Keeps.drewN ?_ _) | (with_reducible refine Keeps.drew ?_) | (with_reducible refine Keeps.alloc ?_ _) | (with_reducible refine Keeps.setCell ?_ ?_ _) | (with_reducible refine Keeps.trans ?_ (After.keeps _)) | (with_reducible refine Keeps.trans ?_ (by with_reducible assumption)) | go_size))⟩
  · have HX := Lib.hid ex
    clear ex
    go_wp2_with (first
      | (go_at_call 51; refine (what_c _ _ _ _ _ _ _ _ (by omega)).mono ?_; rintro e w' ⟨rfl, h1⟩; rw [HW.out]; have hc_ := fun (b o : Nat) (hb : b < _) => (h1).cell (b := b) (o := o) hb; have hf_ := fun (b o : Nat) (hb : b < _) => (h1).frozen (b := b) (o := o) hb; have hs_ := (h1).size; (try simp only [World.size_alloc, World.heap_drewN, World.size_drew, World.size_setCell] at hs_); (first | (with_reducible replace Z := Live.step0 Z hs_) | (with_reducible replace Z := Live.step1 Z hs_) | (with_reducible replace Z := Live.step2 Z hs_) | (with_reducible replace Z := Live.step3 Z hs_) | (with_reducible replace Z := Live.step4 Z hs_)); have z_ := Z; simp only [Live, List.forall_mem_cons, List.not_mem_nil, false_imp_iff, implies_true, and_true] at z_)
      | (go_at_call 60; refine (lclink_c _ _ _ _ _ _ _ _).mono ?_; rintro e w' ⟨rfl, h1⟩; rw [HX.out]))
    go_ret
    exact ⟨rfl, by (repeat' (first | (with_reducible exact Keeps.refl _) | (with_reducible assumption) | (with_reducible refine Keeps.drewN ?_ _) | (with_reducible refine Keeps.drew ?_) | (with_reducible refine Keeps.alloc ?_ _) | (with_reducible refine Keeps.setCell ?_ ?_ _) | (with_reducible refine Keeps.trans ?_ (After.keeps _)) | (with_reducible refine Keeps.trans ?_ (by with_reducible assumption)) | go_size))⟩
  · have HX := Lib.hid ex
    clear ex
    go_wp2_with (first
      | (go_at_call 51; refine (what_c _ _ _ _ _ _ _ _ (by omega)).mono ?_; rintro e w' ⟨rfl, h1⟩; rw [HW.out]; have hc_ := fun (b o : Nat) (hb : b < _) => (h1).cell (b := b) (o := o) hb; have hf_ := fun (b o : Nat) (hb : b < _) => (h1).frozen (b := b) (o := o) hb; have hs_ := (h1).size; (try simp only [World.size_alloc, World.heap_drewN, World.size_drew, World.size_setCell] at hs_); (first | (with_reducible replace Z := Live.step0 Z hs_) | (with_reducible replace Z := Live.step1 Z hs_) | (with_reducible replace Z := Live.step2 Z hs_) | (with_reducible replace Z := Live.step3 Z hs_) | (with_reducible replace Z := Live.step4 Z hs_)); have z_ := Z; simp only [Live, List.forall_mem_cons, List.not_mem_nil, false_imp_iff, implies_true, and_true] at z_)
      | (go_at_call 31; refine (lword_c _ _ _ _ _ _ _ _ _).mono ?_; rintro e w' ⟨rfl, h1⟩; rw [HX.out]))
    go_ret
    exact ⟨rfl, by (repeat' (first | (with_reducible exact Keeps.refl _) | (with_reducible assumption) | (with_reducible refine Keeps.drewN ?_ _) | (with_reducible refine Keeps.drew ?_) | (with_reducible refine Keeps.alloc ?_ _) | (with_reducible refine Keeps.setCell ?_ ?_ _) | (with_reducible refine Keeps.trans ?_ (After.keeps _)) | (with_reducible refine Keeps.trans ?_ (by with_reducible assumption)) | go_size))⟩
end Go.Proofs.Ytendglgcimdcpaa
