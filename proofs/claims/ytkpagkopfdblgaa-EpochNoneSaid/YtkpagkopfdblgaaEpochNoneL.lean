/- The law EpochNone, walked. -/
import Derived.Test.YtkpagkopfdblgaaEpochF
namespace Go.Proofs.Ytkpagkopfdblgaa
set_option linter.unusedVariables false
set_option linter.unusedSimpArgs false
open Go Go.RowKit
set_option maxRecDepth 100000
set_option maxHeartbeats 2000000

section
variable {w : World} {m b N : Nat} {l : List Int} {cc : Int} {x : Acc}
theorem epochNew_no (at_ pins workers : Int) (M : Mem w m b N l cc x) (h : workers < 1 ∨ 64 < workers ∨ at_ < 0 ∨ N ≤ at_ ∨ pins < 0 ∨ N < pins + workers ∨ (pins ≤ at_ ∧ at_ < pins + workers)) :
    Calls Try.prog 72 #[.pointer (some ⟨m, 0, none⟩), .int .i64 at_, .int .i64 pins, .int .i64 workers] w fun e w' => e = .returned (.tuple #[.pointer none, .int .i64 1]) ∧ Keeps w w' := by
  have hmf : ∀ (fn : Fn) (first cap : Array Value) (w : World), (Instr.makeFunc fn first cap).run Try.prog w = .ok (.func fn first cap) w := fun _ _ _ _ => rfl
  have hs := M.small
  by_cases c1 : workers < 1
  · clear h
    go_enter Try.func72, Try.ntmps72
    go_wp2
    go_ret2
    exact ⟨rfl, by ((repeat' (first | (with_reducible exact Keeps.refl _) | (with_reducible assumption) | (with_reducible refine Keeps.drewN ?_ _) | (with_reducible refine Keeps.drew ?_) | (with_reducible refine Keeps.alloc ?_ _) | (with_reducible refine Keeps.setCell ?_ ?_ _) | (with_reducible refine Keeps.trans ?_ (After.keeps _)) | (with_reducible refine Keeps.trans ?_ (by with_reducible assumption)) | go_size)); (first | done | fail))⟩
  by_cases c2 : 64 < workers
  · clear h
    go_enter Try.func72, Try.ntmps72
    go_wp2
    go_ret2
    exact ⟨rfl, by ((repeat' (first | (with_reducible exact Keeps.refl _) | (with_reducible assumption) | (with_reducible refine Keeps.drewN ?_ _) | (with_reducible refine Keeps.drew ?_) | (with_reducible refine Keeps.alloc ?_ _) | (with_reducible refine Keeps.setCell ?_ ?_ _) | (with_reducible refine Keeps.trans ?_ (After.keeps _)) | (with_reducible refine Keeps.trans ?_ (by with_reducible assumption)) | go_size)); (first | done | fail))⟩
  by_cases c3 : at_ < 0 ∨ N ≤ at_
  · have B1 := Lib.hid (inB_no c3)
    clear h c3
    go_enter Try.func72, Try.ntmps72
    go_wp2_with (go_at_call 103; refine (epochCell_c _ _ (by simp) (M.alloc _)).mono ?_; rintro e w' ⟨rfl, rfl⟩; first | rw [B1.out])
    go_ret2
    exact ⟨rfl, by ((repeat' (first | (with_reducible exact Keeps.refl _) | (with_reducible assumption) | (with_reducible refine Keeps.drewN ?_ _) | (with_reducible refine Keeps.drew ?_) | (with_reducible refine Keeps.alloc ?_ _) | (with_reducible refine Keeps.setCell ?_ ?_ _) | (with_reducible refine Keeps.trans ?_ (After.keeps _)) | (with_reducible refine Keeps.trans ?_ (by with_reducible assumption)) | go_size)); (first | done | fail))⟩
  have B1 := Lib.hid (inB_yes (a := at_) (N := N) (by omega) (by omega))
  by_cases c4 : pins < 0 ∨ N ≤ pins
  · have B2 := Lib.hid (inB_no c4)
    clear h c3 c4
    go_enter Try.func72, Try.ntmps72
    go_wp2_with (go_at_call 103; refine (epochCell_c _ _ (by simp) (M.alloc _)).mono ?_; rintro e w' ⟨rfl, rfl⟩; first | rw [B1.out] | rw [B2.out])
    go_ret2
    exact ⟨rfl, by ((repeat' (first | (with_reducible exact Keeps.refl _) | (with_reducible assumption) | (with_reducible refine Keeps.drewN ?_ _) | (with_reducible refine Keeps.drew ?_) | (with_reducible refine Keeps.alloc ?_ _) | (with_reducible refine Keeps.setCell ?_ ?_ _) | (with_reducible refine Keeps.trans ?_ (After.keeps _)) | (with_reducible refine Keeps.trans ?_ (by with_reducible assumption)) | go_size)); (first | done | fail))⟩
  have B2 := Lib.hid (inB_yes (a := pins) (N := N) (by omega) (by omega))
  have u0 : pins + workers ≤ 18000000 := by omega
  have u1 : 1 ≤ pins + workers := by omega
  by_cases c5 : N < pins + workers
  · have B3 := Lib.hid (inB_no (a := pins + workers - 1) (N := N) (by omega))
    clear h c3 c4 c5
    go_enter Try.func72, Try.ntmps72
    go_wp2_with (go_at_call 103; refine (epochCell_c _ _ (by simp) (M.alloc _)).mono ?_; rintro e w' ⟨rfl, rfl⟩; first | rw [B1.out] | rw [B2.out] | rw [B3.out])
    go_ret2
    exact ⟨rfl, by ((repeat' (first | (with_reducible exact Keeps.refl _) | (with_reducible assumption) | (with_reducible refine Keeps.drewN ?_ _) | (with_reducible refine Keeps.drew ?_) | (with_reducible refine Keeps.alloc ?_ _) | (with_reducible refine Keeps.setCell ?_ ?_ _) | (with_reducible refine Keeps.trans ?_ (After.keeps _)) | (with_reducible refine Keeps.trans ?_ (by with_reducible assumption)) | go_size)); (first | done | fail))⟩
  have B3 := Lib.hid (inB_yes (a := pins + workers - 1) (N := N) (by omega) (by omega))
  have c6 : pins ≤ at_ := by omega
  have c7 : at_ < pins + workers := by omega
  clear h c3 c4 c5
  go_enter Try.func72, Try.ntmps72
  go_wp2_with (go_at_call 103; refine (epochCell_c _ _ (by simp) (M.alloc _)).mono ?_; rintro e w' ⟨rfl, rfl⟩; first | rw [B1.out] | rw [B2.out] | rw [B3.out])
  go_ret2
  exact ⟨rfl, by ((repeat' (first | (with_reducible exact Keeps.refl _) | (with_reducible assumption) | (with_reducible refine Keeps.drewN ?_ _) | (with_reducible refine Keeps.drew ?_) | (with_reducible refine Keeps.alloc ?_ _) | (with_reducible refine Keeps.setCell ?_ ?_ _) | (with_reducible refine Keeps.trans ?_ (After.keeps _)) | (with_reducible refine Keeps.trans ?_ (by with_reducible assumption)) | go_size)); (first | done | fail))⟩
theorem pinned_no {E : Nat} {a : Nat} {p n who : Int} (hE : Has w E (epochOf m a p n) 144) (h : who < 0 ∨ n ≤ who) :
    Calls Try.prog 73 #[.pointer (some ⟨E, 0, none⟩), .int .i64 who] w fun e w' => e = .returned (.tuple #[.int .i64 0, .bool false]) ∧ w = w' := by
  have FX_ := (hE).facts; simp only [blockFacts, listFacts, cellsAt, Nat.reduceAdd, and_true, true_and, and_assoc, epochOf] at FX_
  by_cases h2 : who < 0
  · go_enter Try.func73, Try.ntmps73
    go_wp2
    go_ret2
    exact ⟨rfl, rfl⟩
  · have h3 : 0 ≤ who := by omega
    have h4 : ¬ who < n := by omega
    go_enter Try.func73, Try.ntmps73
    go_wp2
    go_ret2
    exact ⟨rfl, rfl⟩
end
/-- Behind the first New: all else. -/
theorem epochNone_c (at_ pins workers who : Int) (w : World) :
    Calls Try.prog 13 #[.int .i64 at_, .int .i64 pins, .int .i64 workers, .int .i64 who] w fun e w' => e = .returned (.bool true) ∧ Keeps w w' := by
  obtain ⟨k, hk⟩ : ∃ k, workers % 10 = k := ⟨_, rfl⟩
  obtain ⟨k9, hk9⟩ : ∃ k, workers % 9 = k := ⟨_, rfl⟩
  obtain ⟨u, hu⟩ : ∃ k, who % 1000 = k := ⟨_, rfl⟩
  obtain ⟨v, hv⟩ : ∃ k, who % 2 = k := ⟨_, rfl⟩
  have b1 := mod_bd workers 10 (by omega)
  have b2 := mod_bd workers 9 (by omega)
  have b3 := mod_bd who 1000 (by omega)
  have b4 := mod_bd who 2 (by omega)
  rw [hk] at b1
  rw [hk9] at b2
  rw [hu] at b3
  rw [hv] at b4
  obtain ⟨b11, b12⟩ := b1
  obtain ⟨b21, b22⟩ := b2
  obtain ⟨b31, b32⟩ := b3
  obtain ⟨b41, b42⟩ := b4
  have HK := Lib.hid hk
  have HK9 := Lib.hid hk9
  have HU := Lib.hid hu
  have HV := Lib.hid hv
  clear hk hk9 hu hv
  rcases (show v = 0 ∨ v = 1 by omega) with rfl | rfl
  · by_cases c0 : at_ < 0
    · go_enter Try.func13, Try.ntmps13
      go_wp2_with (first
        | (go_at_call 46; refine (epochFirst_c _).mono ?_; rintro e w' ⟨rfl, K0⟩)
        | (go_at_call 15; refine (number_c _ _ _ (by omega) (by omega)).mono ?_; rintro e w' ⟨rfl, rfl⟩; first | rw [HK.out] | rw [HK9.out] | rw [HU.out] | rw [HV.out])
        | (go_at_call 31; refine (mnew_int 12 _ (by omega) (by omega)).mono ?_; rintro e w' ⟨m, b, rfl, hk, hm, hb, M⟩; have K0 := K0.trans hk)
        | (go_at_call 72; refine (epochNew_no _ _ _ M (by omega)).mono ?_; rintro e w' ⟨rfl, hk⟩; have K0 := K0.trans hk; have M := M.keeps hk)
        | (go_at_call 72; refine (epochNew_c _ _ _ M (by omega) (by omega) (by omega) (by omega) (by omega) (by omega) (by omega)).mono ?_; rintro e w' ⟨E, rfl, hk, hEs, HE⟩; have K0 := K0.trans hk; have M := M.keeps hk)
        | (go_at_call 67; refine (mkEnter_no (a := 0) HE (by omega)).mono ?_; rintro e w' ⟨rfl, rfl⟩)
        | (go_at_call 70; refine (mkLeave_no (a := 0) HE (by omega)).mono ?_; rintro e w' ⟨rfl, rfl⟩)
        | (go_at_call 73; refine (pinned_no (a := 0) HE (by omega)).mono ?_; rintro e w' ⟨rfl, rfl⟩)
        | (go_at_call 45; refine (mcount M).mono ?_; rintro e w' ⟨rfl, rfl⟩))
      all_goals go_ret
      all_goals exact ⟨rfl, K0⟩
    have d0 : 0 ≤ at_ := by omega
    by_cases c1 : (12 : Int) ≤ at_
    · go_enter Try.func13, Try.ntmps13
      go_wp2_with (first
        | (go_at_call 46; refine (epochFirst_c _).mono ?_; rintro e w' ⟨rfl, K0⟩)
        | (go_at_call 15; refine (number_c _ _ _ (by omega) (by omega)).mono ?_; rintro e w' ⟨rfl, rfl⟩; first | rw [HK.out] | rw [HK9.out] | rw [HU.out] | rw [HV.out])
        | (go_at_call 31; refine (mnew_int 12 _ (by omega) (by omega)).mono ?_; rintro e w' ⟨m, b, rfl, hk, hm, hb, M⟩; have K0 := K0.trans hk)
        | (go_at_call 72; refine (epochNew_no _ _ _ M (by omega)).mono ?_; rintro e w' ⟨rfl, hk⟩; have K0 := K0.trans hk; have M := M.keeps hk)
        | (go_at_call 72; refine (epochNew_c _ _ _ M (by omega) (by omega) (by omega) (by omega) (by omega) (by omega) (by omega)).mono ?_; rintro e w' ⟨E, rfl, hk, hEs, HE⟩; have K0 := K0.trans hk; have M := M.keeps hk)
        | (go_at_call 67; refine (mkEnter_no (a := 0) HE (by omega)).mono ?_; rintro e w' ⟨rfl, rfl⟩)
        | (go_at_call 70; refine (mkLeave_no (a := 0) HE (by omega)).mono ?_; rintro e w' ⟨rfl, rfl⟩)
        | (go_at_call 73; refine (pinned_no (a := 0) HE (by omega)).mono ?_; rintro e w' ⟨rfl, rfl⟩)
        | (go_at_call 45; refine (mcount M).mono ?_; rintro e w' ⟨rfl, rfl⟩))
      all_goals go_ret
      all_goals exact ⟨rfl, K0⟩
    have d1 : at_ < 12 := by omega
    by_cases c2 : pins < 0
    · go_enter Try.func13, Try.ntmps13
      go_wp2_with (first
        | (go_at_call 46; refine (epochFirst_c _).mono ?_; rintro e w' ⟨rfl, K0⟩)
        | (go_at_call 15; refine (number_c _ _ _ (by omega) (by omega)).mono ?_; rintro e w' ⟨rfl, rfl⟩; first | rw [HK.out] | rw [HK9.out] | rw [HU.out] | rw [HV.out])
        | (go_at_call 31; refine (mnew_int 12 _ (by omega) (by omega)).mono ?_; rintro e w' ⟨m, b, rfl, hk, hm, hb, M⟩; have K0 := K0.trans hk)
        | (go_at_call 72; refine (epochNew_no _ _ _ M (by omega)).mono ?_; rintro e w' ⟨rfl, hk⟩; have K0 := K0.trans hk; have M := M.keeps hk)
        | (go_at_call 72; refine (epochNew_c _ _ _ M (by omega) (by omega) (by omega) (by omega) (by omega) (by omega) (by omega)).mono ?_; rintro e w' ⟨E, rfl, hk, hEs, HE⟩; have K0 := K0.trans hk; have M := M.keeps hk)
        | (go_at_call 67; refine (mkEnter_no (a := 0) HE (by omega)).mono ?_; rintro e w' ⟨rfl, rfl⟩)
        | (go_at_call 70; refine (mkLeave_no (a := 0) HE (by omega)).mono ?_; rintro e w' ⟨rfl, rfl⟩)
        | (go_at_call 73; refine (pinned_no (a := 0) HE (by omega)).mono ?_; rintro e w' ⟨rfl, rfl⟩)
        | (go_at_call 45; refine (mcount M).mono ?_; rintro e w' ⟨rfl, rfl⟩))
      all_goals go_ret
      all_goals exact ⟨rfl, K0⟩
    have d2 : 0 ≤ pins := by omega
    by_cases c3 : 12 - (1 + k) < pins
    · have c3b : ¬ pins ≤ 12 - (1 + k) := by omega
      go_enter Try.func13, Try.ntmps13
      go_wp2_with (first
        | (go_at_call 46; refine (epochFirst_c _).mono ?_; rintro e w' ⟨rfl, K0⟩)
        | (go_at_call 15; refine (number_c _ _ _ (by omega) (by omega)).mono ?_; rintro e w' ⟨rfl, rfl⟩; first | rw [HK.out] | rw [HK9.out] | rw [HU.out] | rw [HV.out])
        | (go_at_call 31; refine (mnew_int 12 _ (by omega) (by omega)).mono ?_; rintro e w' ⟨m, b, rfl, hk, hm, hb, M⟩; have K0 := K0.trans hk)
        | (go_at_call 72; refine (epochNew_no _ _ _ M (by omega)).mono ?_; rintro e w' ⟨rfl, hk⟩; have K0 := K0.trans hk; have M := M.keeps hk)
        | (go_at_call 72; refine (epochNew_c _ _ _ M (by omega) (by omega) (by omega) (by omega) (by omega) (by omega) (by omega)).mono ?_; rintro e w' ⟨E, rfl, hk, hEs, HE⟩; have K0 := K0.trans hk; have M := M.keeps hk)
        | (go_at_call 67; refine (mkEnter_no (a := 0) HE (by omega)).mono ?_; rintro e w' ⟨rfl, rfl⟩)
        | (go_at_call 70; refine (mkLeave_no (a := 0) HE (by omega)).mono ?_; rintro e w' ⟨rfl, rfl⟩)
        | (go_at_call 73; refine (pinned_no (a := 0) HE (by omega)).mono ?_; rintro e w' ⟨rfl, rfl⟩)
        | (go_at_call 45; refine (mcount M).mono ?_; rintro e w' ⟨rfl, rfl⟩))
      all_goals go_ret
      all_goals exact ⟨rfl, K0⟩
    have d3 : pins ≤ 12 - (1 + k) := by omega
    by_cases c4 : at_ < pins
    · go_enter Try.func13, Try.ntmps13
      go_wp2_with (first
        | (go_at_call 46; refine (epochFirst_c _).mono ?_; rintro e w' ⟨rfl, K0⟩)
        | (go_at_call 15; refine (number_c _ _ _ (by omega) (by omega)).mono ?_; rintro e w' ⟨rfl, rfl⟩; first | rw [HK.out] | rw [HK9.out] | rw [HU.out] | rw [HV.out])
        | (go_at_call 31; refine (mnew_int 12 _ (by omega) (by omega)).mono ?_; rintro e w' ⟨m, b, rfl, hk, hm, hb, M⟩; have K0 := K0.trans hk)
        | (go_at_call 72; refine (epochNew_no _ _ _ M (by omega)).mono ?_; rintro e w' ⟨rfl, hk⟩; have K0 := K0.trans hk; have M := M.keeps hk)
        | (go_at_call 72; refine (epochNew_c _ _ _ M (by omega) (by omega) (by omega) (by omega) (by omega) (by omega) (by omega)).mono ?_; rintro e w' ⟨E, rfl, hk, hEs, HE⟩; have K0 := K0.trans hk; have M := M.keeps hk)
        | (go_at_call 67; refine (mkEnter_no (a := 0) HE (by omega)).mono ?_; rintro e w' ⟨rfl, rfl⟩)
        | (go_at_call 70; refine (mkLeave_no (a := 0) HE (by omega)).mono ?_; rintro e w' ⟨rfl, rfl⟩)
        | (go_at_call 73; refine (pinned_no (a := 0) HE (by omega)).mono ?_; rintro e w' ⟨rfl, rfl⟩)
        | (go_at_call 45; refine (mcount M).mono ?_; rintro e w' ⟨rfl, rfl⟩))
      all_goals go_ret
      all_goals exact ⟨rfl, K0⟩
    have d4 : ¬ at_ < pins := c4
    by_cases c5 : pins + (1 + k) ≤ at_
    · go_enter Try.func13, Try.ntmps13
      go_wp2_with (first
        | (go_at_call 46; refine (epochFirst_c _).mono ?_; rintro e w' ⟨rfl, K0⟩)
        | (go_at_call 15; refine (number_c _ _ _ (by omega) (by omega)).mono ?_; rintro e w' ⟨rfl, rfl⟩; first | rw [HK.out] | rw [HK9.out] | rw [HU.out] | rw [HV.out])
        | (go_at_call 31; refine (mnew_int 12 _ (by omega) (by omega)).mono ?_; rintro e w' ⟨m, b, rfl, hk, hm, hb, M⟩; have K0 := K0.trans hk)
        | (go_at_call 72; refine (epochNew_no _ _ _ M (by omega)).mono ?_; rintro e w' ⟨rfl, hk⟩; have K0 := K0.trans hk; have M := M.keeps hk)
        | (go_at_call 72; refine (epochNew_c _ _ _ M (by omega) (by omega) (by omega) (by omega) (by omega) (by omega) (by omega)).mono ?_; rintro e w' ⟨E, rfl, hk, hEs, HE⟩; have K0 := K0.trans hk; have M := M.keeps hk)
        | (go_at_call 67; refine (mkEnter_no (a := 0) HE (by omega)).mono ?_; rintro e w' ⟨rfl, rfl⟩)
        | (go_at_call 70; refine (mkLeave_no (a := 0) HE (by omega)).mono ?_; rintro e w' ⟨rfl, rfl⟩)
        | (go_at_call 73; refine (pinned_no (a := 0) HE (by omega)).mono ?_; rintro e w' ⟨rfl, rfl⟩)
        | (go_at_call 45; refine (mcount M).mono ?_; rintro e w' ⟨rfl, rfl⟩))
      all_goals go_ret
      all_goals exact ⟨rfl, K0⟩
    go_enter Try.func13, Try.ntmps13
    go_wp2_with (first
      | (go_at_call 46; refine (epochFirst_c _).mono ?_; rintro e w' ⟨rfl, K0⟩)
      | (go_at_call 15; refine (number_c _ _ _ (by omega) (by omega)).mono ?_; rintro e w' ⟨rfl, rfl⟩; first | rw [HK.out] | rw [HK9.out] | rw [HU.out] | rw [HV.out])
      | (go_at_call 31; refine (mnew_int 12 _ (by omega) (by omega)).mono ?_; rintro e w' ⟨m, b, rfl, hk, hm, hb, M⟩; have K0 := K0.trans hk)
      | (go_at_call 72; refine (epochNew_no _ _ _ M (by omega)).mono ?_; rintro e w' ⟨rfl, hk⟩; have K0 := K0.trans hk; have M := M.keeps hk)
      | (go_at_call 72; refine (epochNew_c _ _ _ M (by omega) (by omega) (by omega) (by omega) (by omega) (by omega) (by omega)).mono ?_; rintro e w' ⟨E, rfl, hk, hEs, HE⟩; have K0 := K0.trans hk; have M := M.keeps hk)
      | (go_at_call 67; refine (mkEnter_no (a := 0) HE (by omega)).mono ?_; rintro e w' ⟨rfl, rfl⟩)
      | (go_at_call 70; refine (mkLeave_no (a := 0) HE (by omega)).mono ?_; rintro e w' ⟨rfl, rfl⟩)
      | (go_at_call 73; refine (pinned_no (a := 0) HE (by omega)).mono ?_; rintro e w' ⟨rfl, rfl⟩)
      | (go_at_call 45; refine (mcount M).mono ?_; rintro e w' ⟨rfl, rfl⟩))
    all_goals go_ret
    all_goals exact ⟨rfl, K0⟩
  · by_cases c0 : at_ < 0
    · go_enter Try.func13, Try.ntmps13
      go_wp2_with (first
        | (go_at_call 46; refine (epochFirst_c _).mono ?_; rintro e w' ⟨rfl, K0⟩)
        | (go_at_call 15; refine (number_c _ _ _ (by omega) (by omega)).mono ?_; rintro e w' ⟨rfl, rfl⟩; first | rw [HK.out] | rw [HK9.out] | rw [HU.out] | rw [HV.out])
        | (go_at_call 31; refine (mnew_int 12 _ (by omega) (by omega)).mono ?_; rintro e w' ⟨m, b, rfl, hk, hm, hb, M⟩; have K0 := K0.trans hk)
        | (go_at_call 72; refine (epochNew_no _ _ _ M (by omega)).mono ?_; rintro e w' ⟨rfl, hk⟩; have K0 := K0.trans hk; have M := M.keeps hk)
        | (go_at_call 72; refine (epochNew_c _ _ _ M (by omega) (by omega) (by omega) (by omega) (by omega) (by omega) (by omega)).mono ?_; rintro e w' ⟨E, rfl, hk, hEs, HE⟩; have K0 := K0.trans hk; have M := M.keeps hk)
        | (go_at_call 67; refine (mkEnter_no (a := 0) HE (by omega)).mono ?_; rintro e w' ⟨rfl, rfl⟩)
        | (go_at_call 70; refine (mkLeave_no (a := 0) HE (by omega)).mono ?_; rintro e w' ⟨rfl, rfl⟩)
        | (go_at_call 73; refine (pinned_no (a := 0) HE (by omega)).mono ?_; rintro e w' ⟨rfl, rfl⟩)
        | (go_at_call 45; refine (mcount M).mono ?_; rintro e w' ⟨rfl, rfl⟩))
      all_goals go_ret
      all_goals exact ⟨rfl, K0⟩
    have d0 : 0 ≤ at_ := by omega
    by_cases c1 : (12 : Int) ≤ at_
    · go_enter Try.func13, Try.ntmps13
      go_wp2_with (first
        | (go_at_call 46; refine (epochFirst_c _).mono ?_; rintro e w' ⟨rfl, K0⟩)
        | (go_at_call 15; refine (number_c _ _ _ (by omega) (by omega)).mono ?_; rintro e w' ⟨rfl, rfl⟩; first | rw [HK.out] | rw [HK9.out] | rw [HU.out] | rw [HV.out])
        | (go_at_call 31; refine (mnew_int 12 _ (by omega) (by omega)).mono ?_; rintro e w' ⟨m, b, rfl, hk, hm, hb, M⟩; have K0 := K0.trans hk)
        | (go_at_call 72; refine (epochNew_no _ _ _ M (by omega)).mono ?_; rintro e w' ⟨rfl, hk⟩; have K0 := K0.trans hk; have M := M.keeps hk)
        | (go_at_call 72; refine (epochNew_c _ _ _ M (by omega) (by omega) (by omega) (by omega) (by omega) (by omega) (by omega)).mono ?_; rintro e w' ⟨E, rfl, hk, hEs, HE⟩; have K0 := K0.trans hk; have M := M.keeps hk)
        | (go_at_call 67; refine (mkEnter_no (a := 0) HE (by omega)).mono ?_; rintro e w' ⟨rfl, rfl⟩)
        | (go_at_call 70; refine (mkLeave_no (a := 0) HE (by omega)).mono ?_; rintro e w' ⟨rfl, rfl⟩)
        | (go_at_call 73; refine (pinned_no (a := 0) HE (by omega)).mono ?_; rintro e w' ⟨rfl, rfl⟩)
        | (go_at_call 45; refine (mcount M).mono ?_; rintro e w' ⟨rfl, rfl⟩))
      all_goals go_ret
      all_goals exact ⟨rfl, K0⟩
    have d1 : at_ < 12 := by omega
    by_cases c2 : pins < 0
    · go_enter Try.func13, Try.ntmps13
      go_wp2_with (first
        | (go_at_call 46; refine (epochFirst_c _).mono ?_; rintro e w' ⟨rfl, K0⟩)
        | (go_at_call 15; refine (number_c _ _ _ (by omega) (by omega)).mono ?_; rintro e w' ⟨rfl, rfl⟩; first | rw [HK.out] | rw [HK9.out] | rw [HU.out] | rw [HV.out])
        | (go_at_call 31; refine (mnew_int 12 _ (by omega) (by omega)).mono ?_; rintro e w' ⟨m, b, rfl, hk, hm, hb, M⟩; have K0 := K0.trans hk)
        | (go_at_call 72; refine (epochNew_no _ _ _ M (by omega)).mono ?_; rintro e w' ⟨rfl, hk⟩; have K0 := K0.trans hk; have M := M.keeps hk)
        | (go_at_call 72; refine (epochNew_c _ _ _ M (by omega) (by omega) (by omega) (by omega) (by omega) (by omega) (by omega)).mono ?_; rintro e w' ⟨E, rfl, hk, hEs, HE⟩; have K0 := K0.trans hk; have M := M.keeps hk)
        | (go_at_call 67; refine (mkEnter_no (a := 0) HE (by omega)).mono ?_; rintro e w' ⟨rfl, rfl⟩)
        | (go_at_call 70; refine (mkLeave_no (a := 0) HE (by omega)).mono ?_; rintro e w' ⟨rfl, rfl⟩)
        | (go_at_call 73; refine (pinned_no (a := 0) HE (by omega)).mono ?_; rintro e w' ⟨rfl, rfl⟩)
        | (go_at_call 45; refine (mcount M).mono ?_; rintro e w' ⟨rfl, rfl⟩))
      all_goals go_ret
      all_goals exact ⟨rfl, K0⟩
    have d2 : 0 ≤ pins := by omega
    by_cases c3 : 12 - (1 + k) < pins
    · have c3b : ¬ pins ≤ 12 - (1 + k) := by omega
      go_enter Try.func13, Try.ntmps13
      go_wp2_with (first
        | (go_at_call 46; refine (epochFirst_c _).mono ?_; rintro e w' ⟨rfl, K0⟩)
        | (go_at_call 15; refine (number_c _ _ _ (by omega) (by omega)).mono ?_; rintro e w' ⟨rfl, rfl⟩; first | rw [HK.out] | rw [HK9.out] | rw [HU.out] | rw [HV.out])
        | (go_at_call 31; refine (mnew_int 12 _ (by omega) (by omega)).mono ?_; rintro e w' ⟨m, b, rfl, hk, hm, hb, M⟩; have K0 := K0.trans hk)
        | (go_at_call 72; refine (epochNew_no _ _ _ M (by omega)).mono ?_; rintro e w' ⟨rfl, hk⟩; have K0 := K0.trans hk; have M := M.keeps hk)
        | (go_at_call 72; refine (epochNew_c _ _ _ M (by omega) (by omega) (by omega) (by omega) (by omega) (by omega) (by omega)).mono ?_; rintro e w' ⟨E, rfl, hk, hEs, HE⟩; have K0 := K0.trans hk; have M := M.keeps hk)
        | (go_at_call 67; refine (mkEnter_no (a := 0) HE (by omega)).mono ?_; rintro e w' ⟨rfl, rfl⟩)
        | (go_at_call 70; refine (mkLeave_no (a := 0) HE (by omega)).mono ?_; rintro e w' ⟨rfl, rfl⟩)
        | (go_at_call 73; refine (pinned_no (a := 0) HE (by omega)).mono ?_; rintro e w' ⟨rfl, rfl⟩)
        | (go_at_call 45; refine (mcount M).mono ?_; rintro e w' ⟨rfl, rfl⟩))
      all_goals go_ret
      all_goals exact ⟨rfl, K0⟩
    have d3 : pins ≤ 12 - (1 + k) := by omega
    by_cases c4 : at_ < pins
    · go_enter Try.func13, Try.ntmps13
      go_wp2_with (first
        | (go_at_call 46; refine (epochFirst_c _).mono ?_; rintro e w' ⟨rfl, K0⟩)
        | (go_at_call 15; refine (number_c _ _ _ (by omega) (by omega)).mono ?_; rintro e w' ⟨rfl, rfl⟩; first | rw [HK.out] | rw [HK9.out] | rw [HU.out] | rw [HV.out])
        | (go_at_call 31; refine (mnew_int 12 _ (by omega) (by omega)).mono ?_; rintro e w' ⟨m, b, rfl, hk, hm, hb, M⟩; have K0 := K0.trans hk)
        | (go_at_call 72; refine (epochNew_no _ _ _ M (by omega)).mono ?_; rintro e w' ⟨rfl, hk⟩; have K0 := K0.trans hk; have M := M.keeps hk)
        | (go_at_call 72; refine (epochNew_c _ _ _ M (by omega) (by omega) (by omega) (by omega) (by omega) (by omega) (by omega)).mono ?_; rintro e w' ⟨E, rfl, hk, hEs, HE⟩; have K0 := K0.trans hk; have M := M.keeps hk)
        | (go_at_call 67; refine (mkEnter_no (a := 0) HE (by omega)).mono ?_; rintro e w' ⟨rfl, rfl⟩)
        | (go_at_call 70; refine (mkLeave_no (a := 0) HE (by omega)).mono ?_; rintro e w' ⟨rfl, rfl⟩)
        | (go_at_call 73; refine (pinned_no (a := 0) HE (by omega)).mono ?_; rintro e w' ⟨rfl, rfl⟩)
        | (go_at_call 45; refine (mcount M).mono ?_; rintro e w' ⟨rfl, rfl⟩))
      all_goals go_ret
      all_goals exact ⟨rfl, K0⟩
    have d4 : ¬ at_ < pins := c4
    by_cases c5 : pins + (1 + k) ≤ at_
    · go_enter Try.func13, Try.ntmps13
      go_wp2_with (first
        | (go_at_call 46; refine (epochFirst_c _).mono ?_; rintro e w' ⟨rfl, K0⟩)
        | (go_at_call 15; refine (number_c _ _ _ (by omega) (by omega)).mono ?_; rintro e w' ⟨rfl, rfl⟩; first | rw [HK.out] | rw [HK9.out] | rw [HU.out] | rw [HV.out])
        | (go_at_call 31; refine (mnew_int 12 _ (by omega) (by omega)).mono ?_; rintro e w' ⟨m, b, rfl, hk, hm, hb, M⟩; have K0 := K0.trans hk)
        | (go_at_call 72; refine (epochNew_no _ _ _ M (by omega)).mono ?_; rintro e w' ⟨rfl, hk⟩; have K0 := K0.trans hk; have M := M.keeps hk)
        | (go_at_call 72; refine (epochNew_c _ _ _ M (by omega) (by omega) (by omega) (by omega) (by omega) (by omega) (by omega)).mono ?_; rintro e w' ⟨E, rfl, hk, hEs, HE⟩; have K0 := K0.trans hk; have M := M.keeps hk)
        | (go_at_call 67; refine (mkEnter_no (a := 0) HE (by omega)).mono ?_; rintro e w' ⟨rfl, rfl⟩)
        | (go_at_call 70; refine (mkLeave_no (a := 0) HE (by omega)).mono ?_; rintro e w' ⟨rfl, rfl⟩)
        | (go_at_call 73; refine (pinned_no (a := 0) HE (by omega)).mono ?_; rintro e w' ⟨rfl, rfl⟩)
        | (go_at_call 45; refine (mcount M).mono ?_; rintro e w' ⟨rfl, rfl⟩))
      all_goals go_ret
      all_goals exact ⟨rfl, K0⟩
    go_enter Try.func13, Try.ntmps13
    go_wp2_with (first
      | (go_at_call 46; refine (epochFirst_c _).mono ?_; rintro e w' ⟨rfl, K0⟩)
      | (go_at_call 15; refine (number_c _ _ _ (by omega) (by omega)).mono ?_; rintro e w' ⟨rfl, rfl⟩; first | rw [HK.out] | rw [HK9.out] | rw [HU.out] | rw [HV.out])
      | (go_at_call 31; refine (mnew_int 12 _ (by omega) (by omega)).mono ?_; rintro e w' ⟨m, b, rfl, hk, hm, hb, M⟩; have K0 := K0.trans hk)
      | (go_at_call 72; refine (epochNew_no _ _ _ M (by omega)).mono ?_; rintro e w' ⟨rfl, hk⟩; have K0 := K0.trans hk; have M := M.keeps hk)
      | (go_at_call 72; refine (epochNew_c _ _ _ M (by omega) (by omega) (by omega) (by omega) (by omega) (by omega) (by omega)).mono ?_; rintro e w' ⟨E, rfl, hk, hEs, HE⟩; have K0 := K0.trans hk; have M := M.keeps hk)
      | (go_at_call 67; refine (mkEnter_no (a := 0) HE (by omega)).mono ?_; rintro e w' ⟨rfl, rfl⟩)
      | (go_at_call 70; refine (mkLeave_no (a := 0) HE (by omega)).mono ?_; rintro e w' ⟨rfl, rfl⟩)
      | (go_at_call 73; refine (pinned_no (a := 0) HE (by omega)).mono ?_; rintro e w' ⟨rfl, rfl⟩)
      | (go_at_call 45; refine (mcount M).mono ?_; rintro e w' ⟨rfl, rfl⟩))
    all_goals go_ret
    all_goals exact ⟨rfl, K0⟩
end Go.Proofs.Ytkpagkopfdblgaa
