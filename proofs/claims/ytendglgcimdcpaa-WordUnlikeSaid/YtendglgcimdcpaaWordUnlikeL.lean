/- The law WordUnlike, walked. -/
import Derived.Test.YtendglgcimdcpaaWordL
import Derived.Deep.DeepCutAuto
namespace Go.Proofs.Ytendglgcimdcpaa
set_option linter.unusedVariables false
set_option linter.unusedSimpArgs false
open Go Go.RowKit
set_option maxRecDepth 100000

theorem headI_ne {a b c d : Int} (h1 : headB a b = true) (h2 : headB c d = true) (h : a ≠ c ∨ b ≠ d) : (headI a b == headI c d) = false := by
  have g1 := headB_true.1 h1
  have g2 := headB_true.1 h2
  simp only [beq_eq_false_iff_ne]
  unfold headI
  rw [if_pos h1, if_pos h2]
  omega
theorem rootI_ne {a b c d e f g i : Int} (h1 : rootB a b c d = true) (h2 : rootB e f g i = true) (h : a ≠ e ∨ b ≠ f ∨ c ≠ g ∨ d ≠ i) : (rootI a b c d == rootI e f g i) = false := by
  have g1 := rootB_true.1 h1
  have g2 := rootB_true.1 h2
  simp only [beq_eq_false_iff_ne]
  unfold rootI
  rw [if_pos h1, if_pos h2]
  omega
theorem pinI_ne {a b : Int} (h1 : withinB a 0 4611686018427387903 = true) (h2 : withinB b 0 4611686018427387903 = true) (h : a ≠ b) : (pinI a == pinI b) = false := by
  have g1 := withinB_true.1 h1
  have g2 := withinB_true.1 h2
  simp only [beq_eq_false_iff_ne]
  unfold pinI
  rw [if_pos h1, if_pos h2]
  omega

set_option maxHeartbeats 2000000 in
theorem wordUnlike_c (ha hb ia ib ra rb rc rd sa sb sc sd d e : Int) (w : World) : Calls Try.prog 11 #[.agg #[.int .i64 ha, .int .i64 hb], .agg #[.int .i64 ia, .int .i64 ib], .agg #[.int .i64 ra, .int .i64 rb, .int .i64 rc, .int .i64 rd], .agg #[.int .i64 sa, .int .i64 sb, .int .i64 sc, .int .i64 sd], .int .i64 d, .int .i64 e] w fun e w' => e = .returned (.bool true) ∧ Keeps w w' := by
  have Y := Live.nil w.heap.size
  have Z := Y
  go_enter Try.func11, Try.ntmps11
  go_upto_region 6 with (first | (go_at_call 32; refine (wfirst_c _).mono ?_; rintro e w' ⟨rfl, h_f⟩; have hc_ := fun (b o : Nat) (hb : b < _) => (h_f).cell (b := b) (o := o) hb; have hf_ := fun (b o : Nat) (hb : b < _) => (h_f).frozen (b := b) (o := o) hb; have hs_ := (h_f).size; (try simp only [World.size_alloc, World.heap_drewN, World.size_drew, World.size_setCell] at hs_); (first | (with_reducible replace Z := Live.step0 Z hs_) | (with_reducible replace Z := Live.step1 Z hs_) | (with_reducible replace Z := Live.step2 Z hs_) | (with_reducible replace Z := Live.step3 Z hs_) | (with_reducible replace Z := Live.step4 Z hs_)); have z_ := Z; simp only [Live, List.forall_mem_cons, List.not_mem_nil, false_imp_iff, implies_true, and_true] at z_) | (go_at_call 38; refine (putHead_c _ _ _).mono ?_; rintro e w' ⟨rfl, h_h⟩; have hc_ := fun (b o : Nat) (hb : b < _) => (h_h).cell (b := b) (o := o) hb; have hf_ := fun (b o : Nat) (hb : b < _) => (h_h).frozen (b := b) (o := o) hb; have hs_ := (h_h).size; (try simp only [World.size_alloc, World.heap_drewN, World.size_drew, World.size_setCell] at hs_); (first | (with_reducible replace Z := Live.step0 Z hs_) | (with_reducible replace Z := Live.step1 Z hs_) | (with_reducible replace Z := Live.step2 Z hs_) | (with_reducible replace Z := Live.step3 Z hs_) | (with_reducible replace Z := Live.step4 Z hs_)); have z_ := Z; simp only [Live, List.forall_mem_cons, List.not_mem_nil, false_imp_iff, implies_true, and_true] at z_))
  go_cut [14, 15, 16, 17, 43] (fun _ _ _ _ t wc => t = .bool false ∧ Keeps ((((w.alloc (.cells #[.int .i64 ha, .int .i64 hb] 50)).alloc (.cells #[.int .i64 ia, .int .i64 ib] 50)).alloc (.cells #[.int .i64 ra, .int .i64 rb, .int .i64 rc, .int .i64 rd] 42)).alloc (.cells #[.int .i64 sa, .int .i64 sb, .int .i64 sc, .int .i64 sd] 42)) wc)
  case first =>
    cases hp : headB ha hb
    · go_wp2
      go_meet; case rel => exact ⟨rfl, by (repeat' (first | (with_reducible exact Keeps.refl _) | (with_reducible assumption) | (with_reducible refine Keeps.drewN ?_ _) | (with_reducible refine Keeps.drew ?_) | (with_reducible refine Keeps.alloc ?_ _) | (with_reducible refine Keeps.setCell ?_ ?_ _) | (with_reducible refine Keeps.trans ?_ (After.keeps _)) | (with_reducible refine Keeps.trans ?_ (by with_reducible assumption)) | go_size))⟩
    · cases hq : headB ia ib
      · go_wp2
        go_meet; case rel => exact ⟨rfl, by (repeat' (first | (with_reducible exact Keeps.refl _) | (with_reducible assumption) | (with_reducible refine Keeps.drewN ?_ _) | (with_reducible refine Keeps.drew ?_) | (with_reducible refine Keeps.alloc ?_ _) | (with_reducible refine Keeps.setCell ?_ ?_ _) | (with_reducible refine Keeps.trans ?_ (After.keeps _)) | (with_reducible refine Keeps.trans ?_ (by with_reducible assumption)) | go_size))⟩
      · by_cases h1 : ha = ia
        · subst h1
          by_cases h2 : hb = ib
          · subst h2
            go_wp2
            go_meet; case rel => exact ⟨rfl, by (repeat' (first | (with_reducible exact Keeps.refl _) | (with_reducible assumption) | (with_reducible refine Keeps.drewN ?_ _) | (with_reducible refine Keeps.drew ?_) | (with_reducible refine Keeps.alloc ?_ _) | (with_reducible refine Keeps.setCell ?_ ?_ _) | (with_reducible refine Keeps.trans ?_ (After.keeps _)) | (with_reducible refine Keeps.trans ?_ (by with_reducible assumption)) | go_size))⟩
          · have e1 := headI_ne hp hq (.inr h2)
            have e2 : (hb == ib) = false := by simpa using h2
            go_wp2
            go_meet; case rel => exact ⟨rfl, by (repeat' (first | (with_reducible exact Keeps.refl _) | (with_reducible assumption) | (with_reducible refine Keeps.drewN ?_ _) | (with_reducible refine Keeps.drew ?_) | (with_reducible refine Keeps.alloc ?_ _) | (with_reducible refine Keeps.setCell ?_ ?_ _) | (with_reducible refine Keeps.trans ?_ (After.keeps _)) | (with_reducible refine Keeps.trans ?_ (by with_reducible assumption)) | go_size))⟩
        · have e1 := headI_ne hp hq (.inl h1)
          have e2 : (ha == ia) = false := by simpa using h1
          go_wp2
          go_meet; case rel => exact ⟨rfl, by (repeat' (first | (with_reducible exact Keeps.refl _) | (with_reducible assumption) | (with_reducible refine Keeps.drewN ?_ _) | (with_reducible refine Keeps.drew ?_) | (with_reducible refine Keeps.alloc ?_ _) | (with_reducible refine Keeps.setCell ?_ ?_ _) | (with_reducible refine Keeps.trans ?_ (After.keeps _)) | (with_reducible refine Keeps.trans ?_ (by with_reducible assumption)) | go_size))⟩
  case rest =>
    obtain ⟨rfl, K⟩ := hcut
    have Z := Y
    have hc_ := fun (b o : Nat) (hb : b < _) => (K).cell (b := b) (o := o) hb; have hf_ := fun (b o : Nat) (hb : b < _) => (K).frozen (b := b) (o := o) hb; have hs_ := (K).size; (try simp only [World.size_alloc, World.heap_drewN, World.size_drew, World.size_setCell] at hs_); (first | (with_reducible replace Z := Live.step0 Z hs_) | (with_reducible replace Z := Live.step1 Z hs_) | (with_reducible replace Z := Live.step2 Z hs_) | (with_reducible replace Z := Live.step3 Z hs_) | (with_reducible replace Z := Live.step4 Z hs_)); have z_ := Z; simp only [Live, List.forall_mem_cons, List.not_mem_nil, false_imp_iff, implies_true, and_true] at z_
    go_upto_region 10 with ((go_at_call 39; refine (putRoot_c _ _ _ _ _).mono ?_; rintro e w' ⟨rfl, h_r⟩; have hc_ := fun (b o : Nat) (hb : b < _) => (h_r).cell (b := b) (o := o) hb; have hf_ := fun (b o : Nat) (hb : b < _) => (h_r).frozen (b := b) (o := o) hb; have hs_ := (h_r).size; (try simp only [World.size_alloc, World.heap_drewN, World.size_drew, World.size_setCell] at hs_); (first | (with_reducible replace Z := Live.step0 Z hs_) | (with_reducible replace Z := Live.step1 Z hs_) | (with_reducible replace Z := Live.step2 Z hs_) | (with_reducible replace Z := Live.step3 Z hs_) | (with_reducible replace Z := Live.step4 Z hs_)); have z_ := Z; simp only [Live, List.forall_mem_cons, List.not_mem_nil, false_imp_iff, implies_true, and_true] at z_))
    go_cut [14, 15, 16, 17, 66] (fun _ _ _ _ t wc => t = .bool false ∧ Keeps ((((w.alloc (.cells #[.int .i64 ha, .int .i64 hb] 50)).alloc (.cells #[.int .i64 ia, .int .i64 ib] 50)).alloc (.cells #[.int .i64 ra, .int .i64 rb, .int .i64 rc, .int .i64 rd] 42)).alloc (.cells #[.int .i64 sa, .int .i64 sb, .int .i64 sc, .int .i64 sd] 42)) wc)
    case first =>
      cases hp : rootB ra rb rc rd
      · go_wp2
        go_meet; case rel => exact ⟨rfl, by (repeat' (first | (with_reducible exact Keeps.refl _) | (with_reducible assumption) | (with_reducible refine Keeps.drewN ?_ _) | (with_reducible refine Keeps.drew ?_) | (with_reducible refine Keeps.alloc ?_ _) | (with_reducible refine Keeps.setCell ?_ ?_ _) | (with_reducible refine Keeps.trans ?_ (After.keeps _)) | (with_reducible refine Keeps.trans ?_ (by with_reducible assumption)) | go_size))⟩
      · cases hq : rootB sa sb sc sd
        · go_wp2
          go_meet; case rel => exact ⟨rfl, by (repeat' (first | (with_reducible exact Keeps.refl _) | (with_reducible assumption) | (with_reducible refine Keeps.drewN ?_ _) | (with_reducible refine Keeps.drew ?_) | (with_reducible refine Keeps.alloc ?_ _) | (with_reducible refine Keeps.setCell ?_ ?_ _) | (with_reducible refine Keeps.trans ?_ (After.keeps _)) | (with_reducible refine Keeps.trans ?_ (by with_reducible assumption)) | go_size))⟩
        · by_cases h1 : ra = sa
          · subst h1
            by_cases h2 : rb = sb
            · subst h2
              by_cases h3 : rc = sc
              · subst h3
                by_cases h4 : rd = sd
                · subst h4
                  go_wp2
                  go_meet; case rel => exact ⟨rfl, by (repeat' (first | (with_reducible exact Keeps.refl _) | (with_reducible assumption) | (with_reducible refine Keeps.drewN ?_ _) | (with_reducible refine Keeps.drew ?_) | (with_reducible refine Keeps.alloc ?_ _) | (with_reducible refine Keeps.setCell ?_ ?_ _) | (with_reducible refine Keeps.trans ?_ (After.keeps _)) | (with_reducible refine Keeps.trans ?_ (by with_reducible assumption)) | go_size))⟩
                · have e1 := rootI_ne hp hq (.inr (.inr (.inr h4)))
                  have e2 : (rd == sd) = false := by simpa using h4
                  go_wp2
                  go_meet; case rel => exact ⟨rfl, by (repeat' (first | (with_reducible exact Keeps.refl _) | (with_reducible assumption) | (with_reducible refine Keeps.drewN ?_ _) | (with_reducible refine Keeps.drew ?_) | (with_reducible refine Keeps.alloc ?_ _) | (with_reducible refine Keeps.setCell ?_ ?_ _) | (with_reducible refine Keeps.trans ?_ (After.keeps _)) | (with_reducible refine Keeps.trans ?_ (by with_reducible assumption)) | go_size))⟩
              · have e1 := rootI_ne hp hq (.inr (.inr (.inl h3)))
                have e2 : (rc == sc) = false := by simpa using h3
                go_wp2
                go_meet; case rel => exact ⟨rfl, by (repeat' (first | (with_reducible exact Keeps.refl _) | (with_reducible assumption) | (with_reducible refine Keeps.drewN ?_ _) | (with_reducible refine Keeps.drew ?_) | (with_reducible refine Keeps.alloc ?_ _) | (with_reducible refine Keeps.setCell ?_ ?_ _) | (with_reducible refine Keeps.trans ?_ (After.keeps _)) | (with_reducible refine Keeps.trans ?_ (by with_reducible assumption)) | go_size))⟩
            · have e1 := rootI_ne hp hq (.inr (.inl h2))
              have e2 : (rb == sb) = false := by simpa using h2
              go_wp2
              go_meet; case rel => exact ⟨rfl, by (repeat' (first | (with_reducible exact Keeps.refl _) | (with_reducible assumption) | (with_reducible refine Keeps.drewN ?_ _) | (with_reducible refine Keeps.drew ?_) | (with_reducible refine Keeps.alloc ?_ _) | (with_reducible refine Keeps.setCell ?_ ?_ _) | (with_reducible refine Keeps.trans ?_ (After.keeps _)) | (with_reducible refine Keeps.trans ?_ (by with_reducible assumption)) | go_size))⟩
          · have e1 := rootI_ne hp hq (.inl h1)
            have e2 : (ra == sa) = false := by simpa using h1
            go_wp2
            go_meet; case rel => exact ⟨rfl, by (repeat' (first | (with_reducible exact Keeps.refl _) | (with_reducible assumption) | (with_reducible refine Keeps.drewN ?_ _) | (with_reducible refine Keeps.drew ?_) | (with_reducible refine Keeps.alloc ?_ _) | (with_reducible refine Keeps.setCell ?_ ?_ _) | (with_reducible refine Keeps.trans ?_ (After.keeps _)) | (with_reducible refine Keeps.trans ?_ (by with_reducible assumption)) | go_size))⟩
    case rest =>
      clear K
      obtain ⟨rfl, K⟩ := hcut
      cases hp : withinB d 0 4611686018427387903
      · have HP := Lib.hid hp
        clear hp
        go_wp2_with ((go_at_call 40; refine (putPin_c _ _).mono ?_; rintro e w' ⟨rfl, k1, rfl⟩; (try rw [HP.out])))
        go_ret
        exact ⟨rfl, by (repeat' (first | (with_reducible exact Keeps.refl _) | (with_reducible assumption) | (with_reducible refine Keeps.drewN ?_ _) | (with_reducible refine Keeps.drew ?_) | (with_reducible refine Keeps.alloc ?_ _) | (with_reducible refine Keeps.setCell ?_ ?_ _) | (with_reducible refine Keeps.trans ?_ (After.keeps _)) | (with_reducible refine Keeps.trans ?_ (by with_reducible assumption)) | go_size))⟩
      · have HP := Lib.hid hp
        cases hq : withinB e 0 4611686018427387903
        · have HQ := Lib.hid hq
          clear hp hq
          go_wp2_with ((go_at_call 40; refine (putPin_c _ _).mono ?_; rintro e w' ⟨rfl, k1, rfl⟩; first | rw [HP.out] | rw [HQ.out]))
          go_ret
          exact ⟨rfl, by (repeat' (first | (with_reducible exact Keeps.refl _) | (with_reducible assumption) | (with_reducible refine Keeps.drewN ?_ _) | (with_reducible refine Keeps.drew ?_) | (with_reducible refine Keeps.alloc ?_ _) | (with_reducible refine Keeps.setCell ?_ ?_ _) | (with_reducible refine Keeps.trans ?_ (After.keeps _)) | (with_reducible refine Keeps.trans ?_ (by with_reducible assumption)) | go_size))⟩
        · have HQ := Lib.hid hq
          by_cases h1 : d = e
          · subst h1
            clear hp hq
            go_wp2_with ((go_at_call 40; refine (putPin_c _ _).mono ?_; rintro e w' ⟨rfl, k1, rfl⟩; first | rw [HP.out] | rw [HQ.out]))
            go_ret
            exact ⟨rfl, by (repeat' (first | (with_reducible exact Keeps.refl _) | (with_reducible assumption) | (with_reducible refine Keeps.drewN ?_ _) | (with_reducible refine Keeps.drew ?_) | (with_reducible refine Keeps.alloc ?_ _) | (with_reducible refine Keeps.setCell ?_ ?_ _) | (with_reducible refine Keeps.trans ?_ (After.keeps _)) | (with_reducible refine Keeps.trans ?_ (by with_reducible assumption)) | go_size))⟩
          · have e1 := pinI_ne hp hq h1
            have e2 : (d == e) = false := by simpa using h1
            clear hp hq
            go_wp2_with ((go_at_call 40; refine (putPin_c _ _).mono ?_; rintro e w' ⟨rfl, k1, rfl⟩; first | rw [HP.out] | rw [HQ.out]))
            go_ret
            exact ⟨rfl, by (repeat' (first | (with_reducible exact Keeps.refl _) | (with_reducible assumption) | (with_reducible refine Keeps.drewN ?_ _) | (with_reducible refine Keeps.drew ?_) | (with_reducible refine Keeps.alloc ?_ _) | (with_reducible refine Keeps.setCell ?_ ?_ _) | (with_reducible refine Keeps.trans ?_ (After.keeps _)) | (with_reducible refine Keeps.trans ?_ (by with_reducible assumption)) | go_size))⟩

end Go.Proofs.Ytendglgcimdcpaa
