/- What package bits computes: each function walked once. -/
import Derived.Test.YtaecapjicphdkaaGreatBase
import Derived.Test.YtaecapjicphdkaaGreatBitsPlain
namespace Go.Proofs.YtaecapjicphdkaaGreat
set_option linter.unusedVariables false
set_option linter.unusedSimpArgs false
open Go Go.RowKit
set_option maxRecDepth 100000

/-- Is it a field? -/
def fieldB (a n : Int) : Bool := decide (0 ≤ n) && (decide (n ≤ 64) && (decide (0 ≤ a) && decide (a + n ≤ 64)))
theorem fieldB_true {a n : Int} : fieldB a n = true ↔ 0 ≤ n ∧ n ≤ 64 ∧ 0 ≤ a ∧ a + n ≤ 64 := by simp [fieldB]
theorem fieldB_false {a n : Int} : fieldB a n = false ↔ ¬ (0 ≤ n ∧ n ≤ 64 ∧ 0 ≤ a ∧ a + n ≤ 64) := by
  rw [← fieldB_true]; simp
def getI (w a n : Int) : Int := if fieldB a n then (getN w.toNat a.toNat n.toNat : Int) else 0
def putI (w a n v : Int) : Int := if fieldB a n && decide (v ≤ maskI n) then (putN w.toNat a.toNat n.toNat v.toNat : Int) else 0
def putB (a n v : Int) : Bool := fieldB a n && decide (v ≤ maskI n)

theorem mask_c (n : Int) (w : World) : Calls Tryz.prog 126 #[.int .i64 n] w fun e w' => e = .returned (.int .u64 (maskI n)) ∧ w = w' := by
  rcases Int.lt_or_le n 0 with h | h
  · rw [maskI_neg (by omega)]
    go_enter Tryz.func126, Tryz.ntmps126
    go_wp2
    go_ret
    exact ⟨rfl, rfl⟩
  · rcases Int.lt_or_le 64 n with h2 | h2
    · rw [maskI_big (by omega)]
      go_enter Tryz.func126, Tryz.ntmps126
      go_wp2
      go_ret
      exact ⟨rfl, rfl⟩
    · have hb := maskI_bd n
      have e : IntKind.u64.wrap (IntKind.u64.wrap (2 ^ n.toNat) - 1) = maskI n := by
        rw [maskI_mid h h2] at hb ⊢
        have h1 : (1 : Int) ≤ 2 ^ n.toNat := by
          have := two_pow_pos n.toNat
          have e : ((2 ^ n.toNat : Nat) : Int) = (2 : Int) ^ n.toNat := by simp
          omega
        simp only [IntKind.wrap_u64]
        omega
      have H := Lib.hid e
      clear e
      clear hb
      go_enter Tryz.func126, Tryz.ntmps126
      go_wp2
      go_ret
      exact ⟨by rw [← H.out]; rfl, rfl⟩

theorem field_c (a n : Int) (w : World) : Calls Tryz.prog 125 #[.int .i64 a, .int .i64 n] w fun e w' => e = .returned (.bool (fieldB a n)) ∧ w = w' := by
  go_enter Tryz.func125, Tryz.ntmps125
  go_wp2
  all_goals go_ret
  all_goals refine ⟨?_, rfl⟩
  · have e : decide (a ≤ 64 - n) = fieldB a n := by rw [Bool.eq_iff_iff, fieldB_true]; simp; omega
    simp [e]
  all_goals
    have e : fieldB a n = false := by rw [fieldB_false]; omega
    rw [e]; rfl

theorem fits_c (v n : Int) (w : World) (h0 : 0 ≤ v) (h1 : v < 18446744073709551616) : Calls Tryz.prog 143 #[.int .u64 v, .int .i64 n] w fun e w' => e = .returned (.bool (decide (v ≤ maskI n))) ∧ w = w' := by
  go_enter Tryz.func143, Tryz.ntmps143
  go_wp2_with (go_at_call 126; refine (mask_c _ _).mono ?_; rintro e w' ⟨rfl, rfl⟩)
  go_ret
  have e : (bits BinOp.andNot IntKind.u64 v (maskI n) == 0) = decide (v ≤ maskI n) := by
    rw [Bool.eq_iff_iff]; simp [andNot_mask_zero v n h0 h1]
  exact ⟨by rw [← e]; rfl, rfl⟩

theorem get_c (v a n : Int) (w : World) (h0 : 0 ≤ v) (h1 : v < 18446744073709551616) : Calls Tryz.prog 85 #[.int .u64 v, .int .i64 a, .int .i64 n] w fun e w' => e = .returned (.int .u64 (getI v a n)) ∧ ∃ k, w' = w.drewN k := by
  cases hf : fieldB a n with
  | true =>
    have hf2 := fieldB_true.1 hf
    obtain ⟨g1, g2, g3, g4⟩ := hf2
    have g5 : a ≤ 64 := by omega
    have e : bits .and .u64 (v / 2 ^ a.toNat) (maskI n) = getI v a n := by
      rw [get_fact v a n h0 h1 g1 g2]; unfold getI; rw [if_pos hf]
    have H := Lib.hid e
    clear e
    have HF := Lib.hid hf
    clear hf
    go_enter Tryz.func85, Tryz.ntmps85
    go_wp2_with (go_at_call 125; refine (field_c _ _ _).mono ?_; rintro e w' ⟨rfl, rfl⟩; rw [HF.out])
    go_quiet ((go_at_call 126; exact Calls.quiet_of_same ((mask_c _ _).mono fun _ _ ⟨p, q⟩ => ⟨p, q.symm⟩)))
    go_wp2
    go_ret
    exact ⟨by rw [← H.out]; rfl, ⟨_, rfl⟩⟩
  | false =>
    have HF := Lib.hid hf
    clear hf
    have e : getI v a n = 0 := by unfold getI; rw [HF.out]; rfl
    rw [e]
    go_enter Tryz.func85, Tryz.ntmps85
    go_wp2_with (go_at_call 125; refine (field_c _ _ _).mono ?_; rintro e w' ⟨rfl, rfl⟩; rw [HF.out])
    go_ret
    exact ⟨rfl, ⟨0, rfl⟩⟩

set_option maxHeartbeats 400000 in
theorem put_c (x a n v : Int) (w : World) (x0 : 0 ≤ x) (x1 : x < 18446744073709551616) (h0 : 0 ≤ v) (h1 : v < 18446744073709551616) : Calls Tryz.prog 140 #[.int .u64 x, .int .i64 a, .int .i64 n, .int .u64 v] w fun e w' => e = .returned (.tuple #[.int .u64 (putI x a n v), .bool (putB a n v)]) ∧ ∃ k, w' = w.drewN k := by
  cases hf : fieldB a n with
  | true =>
    have hf2 := fieldB_true.1 hf
    obtain ⟨g1, g2, g3, g4⟩ := hf2
    have g5 : a ≤ 64 := by omega
    have HF := Lib.hid hf
    clear hf
    cases hg : decide (v ≤ maskI n) with
    | true =>
      have e := put_fact x a n v x0 x1 g1 g3 g4 h0 (of_decide_eq_true hg)
      have e2 : putI x a n v = putN x.toNat a.toNat n.toNat v.toNat := by unfold putI; rw [HF.out, hg]; rfl
      have e3 : putB a n v = true := by unfold putB; rw [HF.out, hg]; rfl
      rw [← e2] at e
      clear e2
      rw [e3]
      clear e3
      have H := Lib.hid e
      clear e
      have HG := Lib.hid hg
      clear hg
      go_enter Tryz.func140, Tryz.ntmps140
      go_wp2_with (first | (go_at_call 125; refine (field_c _ _ _).mono ?_; rintro e w' ⟨rfl, rfl⟩; rw [HF.out]) | (go_at_call 143; refine (fits_c _ _ _ h0 h1).mono ?_; rintro e w' ⟨rfl, rfl⟩; rw [HG.out]))
      go_quiet ((go_at_call 126; exact Calls.quiet_of_same ((mask_c _ _).mono fun _ _ ⟨p, q⟩ => ⟨p, q.symm⟩)))
      go_wp2
      go_ret2
      exact ⟨by rw [← H.out]; rfl, ⟨_, rfl⟩⟩
    | false =>
      have e2 : putI x a n v = 0 := by unfold putI; rw [HF.out, hg]; rfl
      have e3 : putB a n v = false := by unfold putB; rw [HF.out, hg]; rfl
      rw [e2, e3]
      clear e2 e3
      have HG := Lib.hid hg
      clear hg
      go_enter Tryz.func140, Tryz.ntmps140
      go_wp2_with (first | (go_at_call 125; refine (field_c _ _ _).mono ?_; rintro e w' ⟨rfl, rfl⟩; rw [HF.out]) | (go_at_call 143; refine (fits_c _ _ _ h0 h1).mono ?_; rintro e w' ⟨rfl, rfl⟩; rw [HG.out]))
      go_ret2
      exact ⟨rfl, ⟨0, rfl⟩⟩
  | false =>
    have HF := Lib.hid hf
    clear hf
    have e : putI x a n v = 0 := by unfold putI; rw [HF.out]; rfl
    have e2 : putB a n v = false := by unfold putB; rw [HF.out]; rfl
    rw [e, e2]
    go_enter Tryz.func140, Tryz.ntmps140
    go_wp2_with (go_at_call 125; refine (field_c _ _ _).mono ?_; rintro e w' ⟨rfl, rfl⟩; rw [HF.out])
    go_ret2
    exact ⟨rfl, ⟨0, rfl⟩⟩
theorem putI_nat {x a n v : Nat} (h : a + n ≤ 64) (hv : v < 2 ^ n) : putI x a n v = (putN x a n v : Int) ∧ putB a n v = true := by
  have hf : fieldB a n = true := fieldB_true.2 (by omega)
  have hg : decide ((v : Int) ≤ maskI n) = true := by
    rw [maskI_nat n (by omega)]
    have := two_pow_pos n
    exact decide_eq_true (by omega)
  exact ⟨by unfold putI; rw [hf, hg]; rfl, by unfold putB; rw [hf, hg]; rfl⟩
theorem getI_nat {x a n : Nat} (h : a + n ≤ 64) : getI x a n = (getN x a n : Int) := by
  have hf : fieldB a n = true := fieldB_true.2 (by omega)
  unfold getI; rw [if_pos hf]; rfl
theorem getN_u64 {x a n : Nat} (h : n ≤ 64) : getN x a n < 18446744073709551616 := Nat.lt_of_lt_of_le (getN_lt x a n) (two_pow_le_64 h)
theorem put_no {x a n v : Int} (h : fieldB a n = false ∨ maskI n < v) : putI x a n v = 0 ∧ putB a n v = false := by
  have e : (fieldB a n && decide (v ≤ maskI n)) = false := by
    rcases h with h | h
    · rw [h]; rfl
    · rw [show decide (v ≤ maskI n) = false from decide_eq_false (by omega)]; simp
  exact ⟨by unfold putI; rw [e]; rfl, by unfold putB; exact e⟩
theorem get_no {x a n : Int} (h : fieldB a n = false) : getI x a n = 0 := by unfold getI; rw [h]; rfl

end Go.Proofs.YtaecapjicphdkaaGreat
