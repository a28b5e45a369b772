/- What the document's answer on bits computes, and Number: each function walked once. -/
import Derived.Test.YtendglgcimdcpaaBitsW
namespace Go.Proofs.Ytendglgcimdcpaa
set_option linter.unusedVariables false
set_option linter.unusedSimpArgs false
open Go Go.RowKit
set_option maxRecDepth 100000

theorem number_c (v n : Int) (w : World) (h : 1 ≤ n) (h2 : n ≤ 4611686018427387904) : Calls Try.prog 26 #[.int .i64 v, .int .i64 n] w fun e w' => e = .returned (.int .i64 (v % n)) ∧ w = w' := by
  have hn : (n == 0) = false := by simp; omega
  have hn2 : n ≠ 0 := by omega
  go_enter Try.func26, Try.ntmps26
  go_wp2
  all_goals go_ret
  · have h3 : v.tmod n < 0 := by assumption
    have h4 := tmod_low h h3
    refine ⟨?_, rfl⟩
    show Ending.returned (.int .i64 (wrap64 (v.tmod n + n))) = _
    rw [h4.1]
    have h5 := Int.emod_lt_of_pos v (show 0 < n by omega)
    have h6 := Int.emod_nonneg v (show n ≠ 0 by omega)
    have h7 : wrap64 (v % n) = v % n := by
      generalize v % n = z at *
      unfold wrap64
      omega
    rw [h7]
  · have h3 : 0 ≤ v.tmod n := by assumption
    exact ⟨by rw [← tmod_high h h3]; rfl, rfl⟩

theorem rmask_c (n : Int) (w : World) : Calls Try.prog 21 #[.int .i64 n] w fun e w' => e = .returned (.int .u64 (maskI n)) ∧ w = w' := by
  rcases Int.lt_or_le 0 n with h | h
  · rcases Int.lt_or_le n 64 with h2 | h2
    · have hb := maskI_bd n
      have e : IntKind.u64.wrap (IntKind.u64.wrap (2 ^ n.toNat) - 1) = maskI n := by
        rw [maskI_mid (by omega) (by omega)] at hb ⊢
        have h1 : (1 : Int) ≤ 2 ^ n.toNat := by
          have := two_pow_pos n.toNat
          have e : ((2 ^ n.toNat : Nat) : Int) = (2 : Int) ^ n.toNat := by simp
          omega
        simp only [IntKind.wrap_u64]
        omega
      have H := Lib.hid e
      clear e
      clear hb
      go_enter Try.func21, Try.ntmps21
      go_wp2
      go_ret
      exact ⟨by rw [← H.out]; rfl, rfl⟩
    · rw [maskI_big (by omega)]
      go_enter Try.func21, Try.ntmps21
      go_wp2
      go_ret
      exact ⟨rfl, rfl⟩
  · rw [maskI_neg (by omega)]
    go_enter Try.func21, Try.ntmps21
    go_wp2
    go_ret
    exact ⟨rfl, rfl⟩

theorem rfield_c (a n : Int) (w : World) : Calls Try.prog 66 #[.int .i64 a, .int .i64 n] w fun e w' => e = .returned (.bool (fieldB a n)) ∧ w = w' := by
  go_enter Try.func66, Try.ntmps66
  go_wp2
  all_goals go_ret
  all_goals refine ⟨?_, rfl⟩
  · have e : decide (a ≤ 64 - n) = fieldB a n := by rw [Bool.eq_iff_iff, fieldB_true]; simp; omega
    simp [e]
  all_goals
    have e : fieldB a n = false := by rw [fieldB_false]; omega
    rw [e]; rfl

theorem rfits_c (v n : Int) (w : World) : Calls Try.prog 23 #[.int .u64 v, .int .i64 n] w fun e w' => e = .returned (.bool (decide (v ≤ maskI n))) ∧ w = w' := by
  go_enter Try.func23, Try.ntmps23
  go_wp2_with (go_at_call 21; refine (rmask_c _ _).mono ?_; rintro e w' ⟨rfl, rfl⟩)
  go_ret
  exact ⟨rfl, rfl⟩

theorem rget_c (v a n : Int) (w : World) (h0 : 0 ≤ v) (h1 : v < 18446744073709551616) : Calls Try.prog 25 #[.int .u64 v, .int .i64 a, .int .i64 n] w fun e w' => e = .returned (.int .u64 (getI v a n)) ∧ ∃ k, w' = w.drewN k := by
  cases hf : fieldB a n with
  | true =>
    obtain ⟨g1, g2, g3, g4⟩ := fieldB_true.1 hf
    have HF := Lib.hid hf
    clear hf
    go_enter Try.func25, Try.ntmps25
    go_wp2_with (go_at_call 66; refine (rfield_c _ _ _).mono ?_; rintro e w' ⟨rfl, rfl⟩; rw [HF.out])
    obtain ⟨x, rfl⟩ := Int.eq_ofNat_of_zero_le h0
    obtain ⟨m, rfl⟩ := Int.eq_ofNat_of_zero_le g1
    obtain ⟨b, rfl⟩ := Int.eq_ofNat_of_zero_le g3
    have H1 := Lib.hid h1
    clear h1
    have hg4 : b + m ≤ 64 := by omega
    clear g2 g3 g4 g1 h0
    go_loop [7, 8] (fun r i => ∃ k : Nat, k ≤ m ∧ i = .int .i64 k ∧ r = .int .u64 (getN x b k : Nat)) (fun _ i => m - (intOf i).toNat)
    case atStart => exact ⟨0, Nat.zero_le _, rfl, by simp [getN, Nat.mod_one]⟩
    case round =>
      obtain ⟨k, hk, rfl, rfl⟩ := hrel
      by_cases hlt : k < m
      · have H2 : x < 18446744073709551616 := by have := H1.out; omega
        have hbit := and_one_eq x (b + k) H2
        have hn0 := getN_step x b k
        cases ht : decide (x / 2 ^ (b + k) % 2 = 1) with
        | true =>
          rw [ht] at hbit
          have HN := Lib.hid (getN_wrap x b k (by omega) (of_decide_eq_true ht))
          clear hn0 ht H2
          go_wp2
          go_round
          case rel => exact ⟨k + 1, by omega, by go_num, by rw [HN.out]⟩
          case measure => simp [intOf]; omega
        | false =>
          rw [ht] at hbit
          rw [if_neg (of_decide_eq_false ht), Int.add_zero] at hn0
          have HN := Lib.hid hn0
          clear hn0 ht H2
          go_wp2
          go_round
          case rel => exact ⟨k + 1, by omega, by go_num, by rw [HN.out]⟩
          case measure => simp [intOf]; omega
      · go_wp2
        go_ret
        have e : getI (x : Int) b m = getN x b k := by
          unfold getI; rw [if_pos HF.out, show m = k from by omega]; rfl
        exact ⟨by rw [e]; rfl, ⟨0, rfl⟩⟩
  | false =>
    have HF := Lib.hid hf
    clear hf
    have e : getI v a n = 0 := by unfold getI; rw [HF.out]; rfl
    rw [e]
    go_enter Try.func25, Try.ntmps25
    go_wp2_with (go_at_call 66; refine (rfield_c _ _ _).mono ?_; rintro e w' ⟨rfl, rfl⟩; rw [HF.out])
    go_ret
    exact ⟨rfl, ⟨0, rfl⟩⟩

theorem rput_c (x a n v : Int) (w : World) (x0 : 0 ≤ x) (x1 : x < 18446744073709551616) (h0 : 0 ≤ v) (h1 : v < 18446744073709551616) : Calls Try.prog 19 #[.int .u64 x, .int .i64 a, .int .i64 n, .int .u64 v] w fun e w' => e = .returned (.tuple #[.int .u64 (putI x a n v), .bool (putB a n v)]) ∧ ∃ k, w' = w.drewN k := by
  cases hf : fieldB a n with
  | true =>
    obtain ⟨g1, g2, g3, g4⟩ := fieldB_true.1 hf
    have HF := Lib.hid hf
    clear hf
    cases hg : decide (v ≤ maskI n) with
    | true =>
      have e2 : putI x a n v = putN x.toNat a.toNat n.toNat v.toNat := by unfold putI; rw [HF.out, hg]; rfl
      have e3 : putB a n v = true := by unfold putB; rw [HF.out, hg]; rfl
      have hv := fits_lt g1 g2 h0 (of_decide_eq_true hg)
      have HG := Lib.hid hg
      rw [e2, e3]
      clear e2 e3 hg
      obtain ⟨y, rfl⟩ := Int.eq_ofNat_of_zero_le x0
      obtain ⟨u, rfl⟩ := Int.eq_ofNat_of_zero_le h0
      obtain ⟨m, rfl⟩ := Int.eq_ofNat_of_zero_le g1
      obtain ⟨b, rfl⟩ := Int.eq_ofNat_of_zero_le g3
      simp only [Int.toNat_natCast] at hv ⊢
      have HX : Hid (y < 18446744073709551616) := Lib.hid (show y < 18446744073709551616 by omega)
      have HV : Hid (u < 18446744073709551616) := Lib.hid (show u < 18446744073709551616 by omega)
      have HU := Lib.hid hv
      have hg4 : b + m ≤ 64 := by omega
      clear hv x0 x1 h0 h1 g1 g2 g3 g4
      go_enter Try.func19, Try.ntmps19
      go_wp2_with (first | (go_at_call 66; refine (rfield_c _ _ _).mono ?_; rintro e w' ⟨rfl, rfl⟩; rw [HF.out]) | (go_at_call 23; refine (rfits_c _ _ _).mono ?_; rintro e w' ⟨rfl, rfl⟩; rw [HG.out]))
      go_loop [0, 10] (fun r i => ∃ k : Nat, k ≤ m ∧ i = .int .i64 k ∧ r = .int .u64 (putN y b k (u % 2 ^ k) : Nat)) (fun _ i => m - (intOf i).toNat)
      case atStart => exact ⟨0, Nat.zero_le _, rfl, by rw [putN_zero _ _ _ (Nat.mod_lt _ (two_pow_pos 0))]⟩
      case round =>
        obtain ⟨k, hk, rfl, rfl⟩ := hrel
        by_cases hlt : k < m
        · have hp := u64_lt_put y b k u HX.out (by omega)
          have hbit := bits_ne _ (b + k) u k hp HV.out
          have hsame := putN_step_same y b k u
          have hturn := putN_step_turn y b k u
          have hxor := xor_turn _ (b + k) hp (by omega)
          obtain ⟨t, HT⟩ : ∃ t, Hid (putN y b k (u % 2 ^ k) = t) := ⟨_, Lib.hid rfl⟩
          rw [HT.out] at hp hbit hsame hturn hxor ⊢
          cases ht : decide (t.testBit (b + k) ≠ u.testBit k) with
          | true =>
            rw [ht] at hbit
            have HN := Lib.hid (hxor.trans (congrArg Nat.cast (hturn (of_decide_eq_true ht)).symm))
            clear hsame hturn hxor hp ht
            go_wp2
            go_round
            case rel => exact ⟨k + 1, by omega, by go_num, by rw [HN.out]⟩
            case measure => simp [intOf]; omega
          | false =>
            rw [ht] at hbit
            have HN := Lib.hid (hsame (Decidable.of_not_not (of_decide_eq_false ht)))
            clear hsame hturn hxor hp ht
            go_wp2
            go_round
            case rel => exact ⟨k + 1, by omega, by go_num, by rw [HN.out]⟩
            case measure => simp [intOf]; omega
        · obtain rfl : k = m := by omega
          go_wp2
          go_ret2
          exact ⟨by rw [Nat.mod_eq_of_lt HU.out]; rfl, ⟨0, rfl⟩⟩
    | false =>
      have e2 : putI x a n v = 0 := by unfold putI; rw [HF.out, hg]; rfl
      have e3 : putB a n v = false := by unfold putB; rw [HF.out, hg]; rfl
      rw [e2, e3]
      clear e2 e3
      have HG := Lib.hid hg
      clear hg
      go_enter Try.func19, Try.ntmps19
      go_wp2_with (first | (go_at_call 66; refine (rfield_c _ _ _).mono ?_; rintro e w' ⟨rfl, rfl⟩; rw [HF.out]) | (go_at_call 23; refine (rfits_c _ _ _).mono ?_; rintro e w' ⟨rfl, rfl⟩; rw [HG.out]))
      go_ret2
      exact ⟨rfl, ⟨0, rfl⟩⟩
  | false =>
    have HF := Lib.hid hf
    clear hf
    have e : putI x a n v = 0 := by unfold putI; rw [HF.out]; rfl
    have e2 : putB a n v = false := by unfold putB; rw [HF.out]; rfl
    rw [e, e2]
    go_enter Try.func19, Try.ntmps19
    go_wp2_with (go_at_call 66; refine (rfield_c _ _ _).mono ?_; rintro e w' ⟨rfl, rfl⟩; rw [HF.out])
    go_ret2
    exact ⟨rfl, ⟨0, rfl⟩⟩
end Go.Proofs.Ytendglgcimdcpaa
