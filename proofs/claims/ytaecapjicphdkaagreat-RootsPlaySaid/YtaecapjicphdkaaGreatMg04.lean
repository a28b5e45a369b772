/- What package bits computes: each function walked once. -/
import Derived.Test.YtaecapjicphdkaaGreatMg01
import Derived.Test.YtaecapjicphdkaaGreatMg03
namespace Go.Proofs.YtaecapjicphdkaaGreat
set_option linter.unusedVariables false
set_option linter.unusedSimpArgs false
open Go Go.RowKit
set_option maxRecDepth 100000

/-- Is it a field? -/
def fieldB (a n : Int) : Bool := decide (0 ≤ n) && (decide (n ≤ 64) && (decide (0 ≤ a) && decide (a + n ≤ 64)))
theorem fieldB_true {a n : Int} : fieldB a n = true ↔ 0 ≤ n ∧ n ≤ 64 ∧ 0 ≤ a ∧ a + n ≤ 64 := by simp [fieldB]
theorem fieldB_false {a n : Int} : fieldB a n = false ↔ ¬ (0 ≤ n ∧ n ≤ 64 ∧ 0 ≤ a ∧ a + n ≤ 64) := by
  rw [← fieldB_true]; simp
def getI (w a n : Int) : Int := if fieldB a n then (getN w.toNat a.toNat n.toNat : Int) else 0
def putI (w a n v : Int) : Int := if fieldB a n && decide (v ≤ maskI n) then (putN w.toNat a.toNat n.toNat v.toNat : Int) else 0
def putB (a n v : Int) : Bool := fieldB a n && decide (v ≤ maskI n)

theorem mask_c (n : Int) (w : World) : Calls Tryz.prog 126 #[.int .i64 n] w fun e w' => e = .returned (.int .u64 (maskI n)) ∧ w = w' := by
  rcases Int.lt_or_le n 0 with h | h
  · rw [maskI_neg (by omega)]
    go_enter Tryz.func126, Tryz.ntmps126
    go_wp2
    go_ret
    exact ⟨rfl, rfl⟩
  · rcases Int.lt_or_le 64 n with h2 | h2
    · rw [maskI_big (by omega)]
      go_enter Tryz.func126, Tryz.ntmps126
      go_wp2
      go_ret
      exact ⟨rfl, rfl⟩
    · have hb := maskI_bd n
      have e : IntKind.u64.wrap (IntKind.u64.wrap (2 ^ n.toNat) - 1) = maskI n := by
        rw [maskI_mid h h2] at hb ⊢
        have h1 : (1 : Int) ≤ 2 ^ n.toNat := by
          have := two_pow_pos n.toNat
          have e : ((2 ^ n.toNat : Nat) : Int) = (2 : Int) ^ n.toNat := by simp
          omega
        simp only [IntKind.wrap_u64]
        omega
      have H := Lib.hid e
      clear e
      clear hb
      go_enter Tryz.func126, Tryz.ntmps126
      go_wp2
      go_ret
      exact ⟨by rw [← H.out]; rfl, rfl⟩

theorem field_c (a n : Int) (w : World) : Calls Tryz.prog 125 #[.int .i64 a, .int .i64 n] w fun e w' => e = .returned (.bool (fieldB a n)) ∧ w = w' := by
  go_enter Tryz.func125, Tryz.ntmps125
  go_wp2
  all_goals go_ret
  all_goals refine ⟨?_, rfl⟩
  · have e : decide (a ≤ 64 - n) = fieldB a n := by rw [Bool.eq_iff_iff, fieldB_true]; simp; omega
    simp [e]
  all_goals
    have e : fieldB a n = false := by rw [fieldB_false]; omega
    rw [e]; rfl

theorem fits_c (v n : Int) (w : World) (h0 : 0 ≤ v) (h1 : v < 18446744073709551616) : Calls Tryz.prog 143 #[.int .u64 v, .int .i64 n] w fun e w' => e = .returned (.bool (decide (v ≤ maskI n))) ∧ w = w' := by
  go_enter Tryz.func143, Tryz.ntmps143
  go_wp2_with (go_at_call 126; refine (mask_c _ _).mono ?_; rintro e w' ⟨rfl, rfl⟩)
  go_ret
  have e : (bits BinOp.andNot IntKind.u64 v (maskI n) == 0) = decide (v ≤ maskI n) := by
    rw [Bool.eq_iff_iff]; simp [andNot_mask_zero v n h0 h1]
  exact ⟨by rw [← e]; rfl, rfl⟩

theorem get_c (v a n : Int) (w : World) (h0 : 0 ≤ v) (h1 : v < 18446744073709551616) : Calls Tryz.prog 85 #[.int .u64 v, .int .i64 a, .int .i64 n] w fun e w' => e = .returned (.int .u64 (getI v a n)) ∧ ∃ k, w' = w.drewN k := by
  cases hf : fieldB a n with
  | true =>
    have hf2 := fieldB_true.1 hf
    obtain ⟨g1, g2, g3, g4⟩ := hf2
    have g5 : a ≤ 64 := by omega
    have e : bits .and .u64 (v / 2 ^ a.toNat) (maskI n) = getI v a n := by
      rw [get_fact v a n h0 h1 g1 g2]; unfold getI; rw [if_pos hf]
    have H := Lib.hid e
    clear e
    have HF := Lib.hid hf
    clear hf
    go_enter Tryz.func85, Tryz.ntmps85
    go_wp2_with (go_at_call 125; refine (field_c _ _ _).mono ?_; rintro e w' ⟨rfl, rfl⟩; rw [HF.out])
    go_quiet ((go_at_call 126; exact Calls.quiet_of_same ((mask_c _ _).mono fun _ _ ⟨p, q⟩ => ⟨p, q.symm⟩)))
    go_wp2
    go_ret
    exact ⟨by rw [← H.out]; rfl, ⟨_, rfl⟩⟩
  | false =>
    have HF := Lib.hid hf
    clear hf
    have e : getI v a n = 0 := by unfold getI; rw [HF.out]; rfl
    rw [e]
    go_enter Tryz.func85, Tryz.ntmps85
    go_wp2_with (go_at_call 125; refine (field_c _ _ _).mono ?_; rintro e w' ⟨rfl, rfl⟩; rw [HF.out])
    go_ret
    exact ⟨rfl, ⟨0, rfl⟩⟩

set_option maxHeartbeats 400000 in
theorem put_c (x a n v : Int) (w : World) (x0 : 0 ≤ x) (x1 : x < 18446744073709551616) (h0 : 0 ≤ v) (h1 : v < 18446744073709551616) : Calls Tryz.prog 140 #[.int .u64 x, .int .i64 a, .int .i64 n, .int .u64 v] w fun e w' => e = .returned (.tuple #[.int .u64 (putI x a n v), .bool (putB a n v)]) ∧ ∃ k, w' = w.drewN k := by
  cases hf : fieldB a n with
  | true =>
    have hf2 := fieldB_true.1 hf
    obtain ⟨g1, g2, g3, g4⟩ := hf2
    have g5 : a ≤ 64 := by omega
    have HF := Lib.hid hf
    clear hf
    cases hg : decide (v ≤ maskI n) with
    | true =>
      have e := put_fact x a n v x0 x1 g1 g3 g4 h0 (of_decide_eq_true hg)
      have e2 : putI x a n v = putN x.toNat a.toNat n.toNat v.toNat := by unfold putI; rw [HF.out, hg]; rfl
      have e3 : putB a n v = true := by unfold putB; rw [HF.out, hg]; rfl
      rw [← e2] at e
      clear e2
      rw [e3]
      clear e3
      have H := Lib.hid e
      clear e
      have HG := Lib.hid hg
      clear hg
      go_enter Tryz.func140, Tryz.ntmps140
      go_wp2_with (first | (go_at_call 125; refine (field_c _ _ _).mono ?_; rintro e w' ⟨rfl, rfl⟩; rw [HF.out]) | (go_at_call 143; refine (fits_c _ _ _ h0 h1).mono ?_; rintro e w' ⟨rfl, rfl⟩; rw [HG.out]))
      go_quiet ((go_at_call 126; exact Calls.quiet_of_same ((mask_c _ _).mono fun _ _ ⟨p, q⟩ => ⟨p, q.symm⟩)))
      go_wp2
      go_ret2
      exact ⟨by rw [← H.out]; rfl, ⟨_, rfl⟩⟩
    | false =>
      have e2 : putI x a n v = 0 := by unfold putI; rw [HF.out, hg]; rfl
      have e3 : putB a n v = false := by unfold putB; rw [HF.out, hg]; rfl
      rw [e2, e3]
      clear e2 e3
      have HG := Lib.hid hg
      clear hg
      go_enter Tryz.func140, Tryz.ntmps140
      go_wp2_with (first | (go_at_call 125; refine (field_c _ _ _).mono ?_; rintro e w' ⟨rfl, rfl⟩; rw [HF.out]) | (go_at_call 143; refine (fits_c _ _ _ h0 h1).mono ?_; rintro e w' ⟨rfl, rfl⟩; rw [HG.out]))
      go_ret2
      exact ⟨rfl, ⟨0, rfl⟩⟩
  | false =>
    have HF := Lib.hid hf
    clear hf
    have e : putI x a n v = 0 := by unfold putI; rw [HF.out]; rfl
    have e2 : putB a n v = false := by unfold putB; rw [HF.out]; rfl
    rw [e, e2]
    go_enter Tryz.func140, Tryz.ntmps140
    go_wp2_with (go_at_call 125; refine (field_c _ _ _).mono ?_; rintro e w' ⟨rfl, rfl⟩; rw [HF.out])
    go_ret2
    exact ⟨rfl, ⟨0, rfl⟩⟩
theorem putI_nat {x a n v : Nat} (h : a + n ≤ 64) (hv : v < 2 ^ n) : putI x a n v = (putN x a n v : Int) ∧ putB a n v = true := by
  have hf : fieldB a n = true := fieldB_true.2 (by omega)
  have hg : decide ((v : Int) ≤ maskI n) = true := by
    rw [maskI_nat n (by omega)]
    have := two_pow_pos n
    exact decide_eq_true (by omega)
  exact ⟨by unfold putI; rw [hf, hg]; rfl, by unfold putB; rw [hf, hg]; rfl⟩
theorem getI_nat {x a n : Nat} (h : a + n ≤ 64) : getI x a n = (getN x a n : Int) := by
  have hf : fieldB a n = true := fieldB_true.2 (by omega)
  unfold getI; rw [if_pos hf]; rfl
theorem getN_u64 {x a n : Nat} (h : n ≤ 64) : getN x a n < 18446744073709551616 := Nat.lt_of_lt_of_le (getN_lt x a n) (two_pow_le_64 h)
theorem put_no {x a n v : Int} (h : fieldB a n = false ∨ maskI n < v) : putI x a n v = 0 ∧ putB a n v = false := by
  have e : (fieldB a n && decide (v ≤ maskI n)) = false := by
    rcases h with h | h
    · rw [h]; rfl
    · rw [show decide (v ≤ maskI n) = false from decide_eq_false (by omega)]; simp
  exact ⟨by unfold putI; rw [e]; rfl, by unfold putB; exact e⟩
theorem get_no {x a n : Int} (h : fieldB a n = false) : getI x a n = 0 := by unfold getI; rw [h]; rfl

end Go.Proofs.YtaecapjicphdkaaGreat

/- What package word computes: each function walked once. -/
namespace Go.Proofs.YtaecapjicphdkaaGreat
set_option linter.unusedVariables false
set_option linter.unusedSimpArgs false
open Go Go.RowKit
set_option maxRecDepth 100000

def withinB (n a b : Int) : Bool := decide (a ≤ n) && decide (n ≤ b)
theorem withinB_true {n a b : Int} : withinB n a b = true ↔ a ≤ n ∧ n ≤ b := by simp [withinB]
theorem wwithin_c (n a b : Int) (w : World) : Calls Tryz.prog 139 #[.int .i64 n, .int .i64 a, .int .i64 b] w fun e w' => e = .returned (.bool (withinB n a b)) ∧ w = w' := by
  go_enter Tryz.func139, Tryz.ntmps139
  go_wp2
  all_goals go_ret
  · have h : decide (a ≤ n) = true := decide_eq_true (by assumption)
    exact ⟨by unfold withinB; rw [h]; rfl, rfl⟩
  · have h : decide (a ≤ n) = false := decide_eq_false (by omega)
    exact ⟨by unfold withinB; rw [h]; rfl, rfl⟩

/-- May a head be? -/
def headB (i t : Int) : Bool := withinB i (-1) 4294967294 && withinB t 0 4294967295
def headI (i t : Int) : Int := if headB i t then t * 4294967296 + (i + 1) else 0

theorem putN_low {x a n v : Nat} (h : x < 2 ^ a) : putN x a n v = 2 ^ a * v + x := by
  unfold putN
  have h1 : x / 2 ^ (a + n) = 0 := Nat.div_eq_of_lt (Nat.lt_of_lt_of_le h (Nat.pow_le_pow_right (by omega) (by omega)))
  rw [h1, Nat.mod_eq_of_lt h]; simp
theorem putI_low {x v : Int} (a n : Nat) (han : a + n ≤ 64) (x0 : 0 ≤ x) (hx : x < (2 ^ a : Nat)) (v0 : 0 ≤ v) (hv : v < (2 ^ n : Nat)) :
    putI x a n v = (2 ^ a : Nat) * v + x ∧ putB a n v = true := by
  obtain ⟨y, rfl⟩ := Int.eq_ofNat_of_zero_le x0
  obtain ⟨u, rfl⟩ := Int.eq_ofNat_of_zero_le v0
  have h := putI_nat (x := y) han (show u < 2 ^ n by omega)
  rw [putN_low (show y < 2 ^ a by omega)] at h
  exact ⟨by rw [h.1]; simp, h.2⟩
theorem getI_of {x : Int} (a n : Nat) (han : a + n ≤ 64) (x0 : 0 ≤ x) : getI x a n = x / (2 ^ a : Nat) % (2 ^ n : Nat) := by
  obtain ⟨y, rfl⟩ := Int.eq_ofNat_of_zero_le x0
  rw [getI_nat han]
  unfold getN
  simp

theorem headB_true {i t : Int} : headB i t = true ↔ (-1 ≤ i ∧ i ≤ 4294967294) ∧ 0 ≤ t ∧ t ≤ 4294967295 := by
  unfold headB; rw [Bool.and_eq_true, withinB_true, withinB_true]

set_option maxHeartbeats 400000 in
theorem putHead_c (i t : Int) (w : World) : Calls Tryz.prog 127 #[.agg #[.int .i64 i, .int .i64 t]] w fun e w' => e = .returned (.tuple #[.int .u64 (headI i t), .bool (headB i t)]) ∧ Keeps w w' := by
  cases h1 : withinB i (-1) 4294967294 with
  | false =>
    have e : headB i t = false := by unfold headB; rw [h1]; rfl
    have e2 : headI i t = 0 := by unfold headI; rw [e]; rfl
    rw [e, e2]
    have H1 := Lib.hid h1
    clear h1 e e2
    go_enter Tryz.func127, Tryz.ntmps127
    go_wp2_with (go_at_call 139; refine (wwithin_c _ _ _ _).mono ?_; rintro e w' ⟨rfl, rfl⟩; rw [H1.out])
    go_ret2
    exact ⟨rfl, (Keeps.refl _).alloc _⟩
  | true =>
    cases h2 : withinB t 0 4294967295 with
    | false =>
      have e : headB i t = false := by unfold headB; rw [h1, h2]; rfl
      have e2 : headI i t = 0 := by unfold headI; rw [e]; rfl
      rw [e, e2]
      have H1 := Lib.hid h1
      have H2 := Lib.hid h2
      clear h1 h2 e e2
      go_enter Tryz.func127, Tryz.ntmps127
      go_wp2_with (go_at_call 139; refine (wwithin_c _ _ _ _).mono ?_; rintro e w' ⟨rfl, rfl⟩; first | rw [H1.out] | rw [H2.out])
      go_ret2
      exact ⟨rfl, (Keeps.refl _).alloc _⟩
    | true =>
      have e : headB i t = true := by unfold headB; rw [h1, h2]; rfl
      have e2 : headI i t = t * 4294967296 + (i + 1) := by unfold headI; rw [e]; rfl
      rw [e, e2]
      have b1 := withinB_true.1 h1
      have b2 := withinB_true.1 h2
      obtain ⟨b3, b4⟩ := b1
      obtain ⟨b5, b6⟩ := b2
      have p1 : putI 0 0 32 (i + 1) = ((2 ^ 0 : Nat) : Int) * (i + 1) + 0 ∧ putB 0 32 (i + 1) = true := putI_low (x := 0) (v := i + 1) 0 32 (by omega) (by omega) (by decide) (by omega) (by omega)
      have p2 : putI (i + 1) 32 32 t = ((2 ^ 32 : Nat) : Int) * t + (i + 1) ∧ putB 32 32 t = true := putI_low (x := i + 1) (v := t) 32 32 (by omega) (by omega) (by omega) (by omega) (by omega)
      rw [show ((2 ^ 0 : Nat) : Int) * (i + 1) + 0 = i + 1 from by omega] at p1
      rw [show ((2 ^ 32 : Nat) : Int) * t + (i + 1) = t * 4294967296 + (i + 1) from by omega] at p2
      have ew : IntKind.u64.wrap (i + 1) = i + 1 := by rw [IntKind.wrap_u64]; omega
      have ew2 : IntKind.u64.wrap t = t := by rw [IntKind.wrap_u64]; omega
      have P1 := Lib.hid p1
      have P2 := Lib.hid p2
      have H1 := Lib.hid h1
      have H2 := Lib.hid h2
      clear h1 h2 e e2 p1 p2 ew ew2
      go_enter Tryz.func127, Tryz.ntmps127
      go_wp2_with (first
        | (go_at_call 139; refine (wwithin_c _ _ _ _).mono ?_; rintro e w' ⟨rfl, rfl⟩; first | rw [H1.out] | rw [H2.out])
        | (go_at_call 140; refine (put_c _ _ _ _ _ (by omega) (by omega) (by omega) (by omega)).mono ?_; rintro e w' ⟨rfl, k, rfl⟩; first | rw [P1.out.1, P1.out.2] | rw [P2.out.1, P2.out.2]))
      go_ret2
      exact ⟨rfl, by ((repeat' (first | (with_reducible exact Keeps.refl _) | (with_reducible assumption) | (with_reducible refine Keeps.drewN ?_ _) | (with_reducible refine Keeps.drew ?_) | (with_reducible refine Keeps.alloc ?_ _) | (with_reducible refine Keeps.setCell ?_ ?_ _) | (with_reducible refine Keeps.trans ?_ (After.keeps _)) | (with_reducible refine Keeps.trans ?_ (by with_reducible assumption)) | go_size)); (first | done | fail))⟩

theorem getHead_c (x : Int) (w : World) (h0 : 0 ≤ x) (h1 : x < 18446744073709551616) : Calls Tryz.prog 130 #[.int .u64 x] w fun e w' => e = .returned (.agg #[.int .i64 (x % 4294967296 - 1), .int .i64 (x / 4294967296)]) ∧ Keeps w w' := by
  have g1 : getI x 0 32 = x / ((2 ^ 0 : Nat) : Int) % ((2 ^ 32 : Nat) : Int) := getI_of (x := x) 0 32 (by omega) h0
  have g2 : getI x 32 32 = x / ((2 ^ 32 : Nat) : Int) % ((2 ^ 32 : Nat) : Int) := getI_of (x := x) 32 32 (by omega) h0
  rw [show x / ((2 ^ 0 : Nat) : Int) % ((2 ^ 32 : Nat) : Int) = x % 4294967296 from by omega] at g1
  rw [show x / ((2 ^ 32 : Nat) : Int) % ((2 ^ 32 : Nat) : Int) = x / 4294967296 from by omega] at g2
  have b1 : 0 ≤ x % 4294967296 ∧ x % 4294967296 < 4294967296 := by omega
  have b2 : 0 ≤ x / 4294967296 ∧ x / 4294967296 < 4294967296 := by omega
  generalize x % 4294967296 = y at *
  generalize x / 4294967296 = z at *
  obtain ⟨b3, b4⟩ := b1
  obtain ⟨b5, b6⟩ := b2
  have G1 := Lib.hid g1
  have G2 := Lib.hid g2
  clear g1 g2
  go_enter Tryz.func130, Tryz.ntmps130
  go_wp2_with (go_at_call 85; refine (get_c _ _ _ _ h0 h1).mono ?_; rintro e w' ⟨rfl, k, rfl⟩; first | rw [G1.out] | rw [G2.out])
  go_returns
  exact ⟨rfl, by ((repeat' (first | (with_reducible exact Keeps.refl _) | (with_reducible assumption) | (with_reducible refine Keeps.drewN ?_ _) | (with_reducible refine Keeps.drew ?_) | (with_reducible refine Keeps.alloc ?_ _) | (with_reducible refine Keeps.setCell ?_ ?_ _) | (with_reducible refine Keeps.trans ?_ (After.keeps _)) | (with_reducible refine Keeps.trans ?_ (by with_reducible assumption)) | go_size)); (first | done | fail))⟩

/-- The tag behind a head's. -/
def tagN (t : Int) : Int := if 0 ≤ t ∧ t ≤ 4294967294 then t + 1 else 0
theorem next_c (i t x : Int) (w : World) : Calls Tryz.prog 145 #[.agg #[.int .i64 i, .int .i64 t], .int .i64 x] w fun e w' => e = .returned (.agg #[.int .i64 x, .int .i64 (tagN t)]) ∧ Keeps w w' := by
  cases h1 : withinB t 0 4294967294 with
  | false =>
    have e : tagN t = 0 := by unfold tagN; rw [if_neg]; rw [← withinB_true, h1]; simp
    rw [e]
    have H1 := Lib.hid h1
    clear h1 e
    go_enter Tryz.func145, Tryz.ntmps145
    go_wp2_with (go_at_call 139; refine (wwithin_c _ _ _ _).mono ?_; rintro e w' ⟨rfl, rfl⟩; rw [H1.out])
    go_returns
    exact ⟨rfl, by ((repeat' (first | (with_reducible exact Keeps.refl _) | (with_reducible assumption) | (with_reducible refine Keeps.drewN ?_ _) | (with_reducible refine Keeps.drew ?_) | (with_reducible refine Keeps.alloc ?_ _) | (with_reducible refine Keeps.setCell ?_ ?_ _) | (with_reducible refine Keeps.trans ?_ (After.keeps _)) | (with_reducible refine Keeps.trans ?_ (by with_reducible assumption)) | go_size)); (first | done | fail))⟩
  | true =>
    have b := withinB_true.1 h1
    have e : tagN t = t + 1 := by unfold tagN; rw [if_pos b]
    rw [e]
    obtain ⟨b1, b2⟩ := b
    have H1 := Lib.hid h1
    clear h1 e
    go_enter Tryz.func145, Tryz.ntmps145
    go_wp2_with (go_at_call 139; refine (wwithin_c _ _ _ _).mono ?_; rintro e w' ⟨rfl, rfl⟩; rw [H1.out])
    go_returns
    exact ⟨rfl, by ((repeat' (first | (with_reducible exact Keeps.refl _) | (with_reducible assumption) | (with_reducible refine Keeps.drewN ?_ _) | (with_reducible refine Keeps.drew ?_) | (with_reducible refine Keeps.alloc ?_ _) | (with_reducible refine Keeps.setCell ?_ ?_ _) | (with_reducible refine Keeps.trans ?_ (After.keeps _)) | (with_reducible refine Keeps.trans ?_ (by with_reducible assumption)) | go_size)); (first | done | fail))⟩

/-- May a root be? -/
def rootB (g m c o : Int) : Bool := withinB g 0 4294967295 && (withinB m 0 4097 && (withinB c 0 3 && withinB o 0 1024))
theorem rootB_true {g m c o : Int} : rootB g m c o = true ↔ (0 ≤ g ∧ g ≤ 4294967295) ∧ (0 ≤ m ∧ m ≤ 4097) ∧ (0 ≤ c ∧ c ≤ 3) ∧ 0 ≤ o ∧ o ≤ 1024 := by
  unfold rootB; simp only [Bool.and_eq_true, withinB_true]
def rootI (g m c o : Int) : Int := if rootB g m c o then g * 4294967296 + m * 65536 + c * 4096 + o else 0

set_option maxHeartbeats 400000 in
theorem putRoot_c (g m c o : Int) (w : World) : Calls Tryz.prog 119 #[.agg #[.int .i64 g, .int .i64 m, .int .i64 c, .int .i64 o]] w fun e w' => e = .returned (.tuple #[.int .u64 (rootI g m c o), .bool (rootB g m c o)]) ∧ Keeps w w' := by
  have HG : ∀ b, Hid (withinB g 0 4294967295 = b) → Hid (b = withinB g 0 4294967295) := fun b h => Lib.hid h.out.symm
  cases h1 : withinB g 0 4294967295 with
  | false =>
    have e : rootB g m c o = false := by unfold rootB; rw [h1]; rfl
    have e2 : rootI g m c o = 0 := by unfold rootI; rw [e]; rfl
    rw [e, e2]
    have H1 := Lib.hid h1
    clear h1 e e2 HG
    go_enter Tryz.func119, Tryz.ntmps119
    go_wp2_with (go_at_call 139; refine (wwithin_c _ _ _ _).mono ?_; rintro e w' ⟨rfl, rfl⟩; rw [H1.out])
    go_ret2
    exact ⟨rfl, by ((repeat' (first | (with_reducible exact Keeps.refl _) | (with_reducible assumption) | (with_reducible refine Keeps.drewN ?_ _) | (with_reducible refine Keeps.drew ?_) | (with_reducible refine Keeps.alloc ?_ _) | (with_reducible refine Keeps.setCell ?_ ?_ _) | (with_reducible refine Keeps.trans ?_ (After.keeps _)) | (with_reducible refine Keeps.trans ?_ (by with_reducible assumption)) | go_size)); (first | done | fail))⟩
  | true =>
    have H1 := Lib.hid h1
    cases h2 : withinB m 0 4097 with
    | false =>
      have e : rootB g m c o = false := by unfold rootB; rw [h1, h2]; rfl
      have e2 : rootI g m c o = 0 := by unfold rootI; rw [e]; rfl
      rw [e, e2]
      have H2 := Lib.hid h2
      clear h1 h2 e e2 HG
      go_enter Tryz.func119, Tryz.ntmps119
      go_wp2_with (go_at_call 139; refine (wwithin_c _ _ _ _).mono ?_; rintro e w' ⟨rfl, rfl⟩; first | rw [H1.out] | rw [H2.out])
      go_ret2
      exact ⟨rfl, by ((repeat' (first | (with_reducible exact Keeps.refl _) | (with_reducible assumption) | (with_reducible refine Keeps.drewN ?_ _) | (with_reducible refine Keeps.drew ?_) | (with_reducible refine Keeps.alloc ?_ _) | (with_reducible refine Keeps.setCell ?_ ?_ _) | (with_reducible refine Keeps.trans ?_ (After.keeps _)) | (with_reducible refine Keeps.trans ?_ (by with_reducible assumption)) | go_size)); (first | done | fail))⟩
    | true =>
      have H2 := Lib.hid h2
      cases h3 : withinB c 0 3 with
      | false =>
        have e : rootB g m c o = false := by unfold rootB; rw [h1, h2, h3]; rfl
        have e2 : rootI g m c o = 0 := by unfold rootI; rw [e]; rfl
        rw [e, e2]
        have H3 := Lib.hid h3
        clear h1 h2 h3 e e2 HG
        go_enter Tryz.func119, Tryz.ntmps119
        go_wp2_with (go_at_call 139; refine (wwithin_c _ _ _ _).mono ?_; rintro e w' ⟨rfl, rfl⟩; first | rw [H1.out] | rw [H2.out] | rw [H3.out])
        go_ret2
        exact ⟨rfl, by ((repeat' (first | (with_reducible exact Keeps.refl _) | (with_reducible assumption) | (with_reducible refine Keeps.drewN ?_ _) | (with_reducible refine Keeps.drew ?_) | (with_reducible refine Keeps.alloc ?_ _) | (with_reducible refine Keeps.setCell ?_ ?_ _) | (with_reducible refine Keeps.trans ?_ (After.keeps _)) | (with_reducible refine Keeps.trans ?_ (by with_reducible assumption)) | go_size)); (first | done | fail))⟩
      | true =>
        have H3 := Lib.hid h3
        cases h4 : withinB o 0 1024 with
        | false =>
          have e : rootB g m c o = false := by unfold rootB; rw [h1, h2, h3, h4]; rfl
          have e2 : rootI g m c o = 0 := by unfold rootI; rw [e]; rfl
          rw [e, e2]
          have H4 := Lib.hid h4
          clear h1 h2 h3 h4 e e2 HG
          go_enter Tryz.func119, Tryz.ntmps119
          go_wp2_with (go_at_call 139; refine (wwithin_c _ _ _ _).mono ?_; rintro e w' ⟨rfl, rfl⟩; first | rw [H1.out] | rw [H2.out] | rw [H3.out] | rw [H4.out])
          go_ret2
          exact ⟨rfl, by ((repeat' (first | (with_reducible exact Keeps.refl _) | (with_reducible assumption) | (with_reducible refine Keeps.drewN ?_ _) | (with_reducible refine Keeps.drew ?_) | (with_reducible refine Keeps.alloc ?_ _) | (with_reducible refine Keeps.setCell ?_ ?_ _) | (with_reducible refine Keeps.trans ?_ (After.keeps _)) | (with_reducible refine Keeps.trans ?_ (by with_reducible assumption)) | go_size)); (first | done | fail))⟩
        | true =>
          have H4 := Lib.hid h4
          have e : rootB g m c o = true := by unfold rootB; rw [h1, h2, h3, h4]; rfl
          have e2 : rootI g m c o = g * 4294967296 + m * 65536 + c * 4096 + o := by unfold rootI; rw [e]; rfl
          rw [e, e2]
          obtain ⟨a1, a2⟩ := withinB_true.1 h1
          obtain ⟨a3, a4⟩ := withinB_true.1 h2
          obtain ⟨a5, a6⟩ := withinB_true.1 h3
          obtain ⟨a7, a8⟩ := withinB_true.1 h4
          have p1 : putI 0 0 12 o = ((2 ^ 0 : Nat) : Int) * o + 0 ∧ putB 0 12 o = true := putI_low (x := 0) (v := o) 0 12 (by omega) (by omega) (by decide) (by omega) (by omega)
          have p2 : putI o 12 4 c = ((2 ^ 12 : Nat) : Int) * c + o ∧ putB 12 4 c = true := putI_low (x := o) (v := c) 12 4 (by omega) (by omega) (by omega) (by omega) (by omega)
          have p3 : putI (c * 4096 + o) 16 16 m = ((2 ^ 16 : Nat) : Int) * m + (c * 4096 + o) ∧ putB 16 16 m = true := putI_low (x := c * 4096 + o) (v := m) 16 16 (by omega) (by omega) (by omega) (by omega) (by omega)
          have p4 : putI (m * 65536 + c * 4096 + o) 32 32 g = ((2 ^ 32 : Nat) : Int) * g + (m * 65536 + c * 4096 + o) ∧ putB 32 32 g = true := putI_low (x := m * 65536 + c * 4096 + o) (v := g) 32 32 (by omega) (by omega) (by omega) (by omega) (by omega)
          rw [show ((2 ^ 0 : Nat) : Int) * o + 0 = o from by omega] at p1
          rw [show ((2 ^ 12 : Nat) : Int) * c + o = c * 4096 + o from by omega] at p2
          rw [show ((2 ^ 16 : Nat) : Int) * m + (c * 4096 + o) = m * 65536 + c * 4096 + o from by omega] at p3
          rw [show ((2 ^ 32 : Nat) : Int) * g + (m * 65536 + c * 4096 + o) = g * 4294967296 + m * 65536 + c * 4096 + o from by omega] at p4
          have P1 := Lib.hid p1
          have P2 := Lib.hid p2
          have P3 := Lib.hid p3
          have P4 := Lib.hid p4
          clear h1 h2 h3 h4 e e2 p1 p2 p3 p4 HG
          go_enter Tryz.func119, Tryz.ntmps119
          go_wp2_with (first
            | (go_at_call 139; refine (wwithin_c _ _ _ _).mono ?_; rintro e w' ⟨rfl, rfl⟩; first | rw [H1.out] | rw [H2.out] | rw [H3.out] | rw [H4.out])
            | (go_at_call 140; refine (put_c _ _ _ _ _ (by omega) (by omega) (by omega) (by omega)).mono ?_; rintro e w' ⟨rfl, k, rfl⟩; first | rw [P1.out.1, P1.out.2] | rw [P2.out.1, P2.out.2] | rw [P3.out.1, P3.out.2] | rw [P4.out.1, P4.out.2]))
          go_ret2
          exact ⟨rfl, by ((repeat' (first | (with_reducible exact Keeps.refl _) | (with_reducible assumption) | (with_reducible refine Keeps.drewN ?_ _) | (with_reducible refine Keeps.drew ?_) | (with_reducible refine Keeps.alloc ?_ _) | (with_reducible refine Keeps.setCell ?_ ?_ _) | (with_reducible refine Keeps.trans ?_ (After.keeps _)) | (with_reducible refine Keeps.trans ?_ (by with_reducible assumption)) | go_size)); (first | done | fail))⟩

set_option maxHeartbeats 400000 in
theorem getRoot_c (x : Int) (w : World) (h0 : 0 ≤ x) (h1 : x < 18446744073709551616) : Calls Tryz.prog 45 #[.int .u64 x] w fun e w' => e = .returned (.agg #[.int .i64 (x / 4294967296), .int .i64 (x / 65536 % 65536), .int .i64 (x / 4096 % 16), .int .i64 (x % 4096)]) ∧ Keeps w w' := by
  have g1 : getI x 32 32 = x / ((2 ^ 32 : Nat) : Int) % ((2 ^ 32 : Nat) : Int) := getI_of (x := x) 32 32 (by omega) h0
  have g2 : getI x 16 16 = x / ((2 ^ 16 : Nat) : Int) % ((2 ^ 16 : Nat) : Int) := getI_of (x := x) 16 16 (by omega) h0
  have g3 : getI x 12 4 = x / ((2 ^ 12 : Nat) : Int) % ((2 ^ 4 : Nat) : Int) := getI_of (x := x) 12 4 (by omega) h0
  have g4 : getI x 0 12 = x / ((2 ^ 0 : Nat) : Int) % ((2 ^ 12 : Nat) : Int) := getI_of (x := x) 0 12 (by omega) h0
  rw [show x / ((2 ^ 32 : Nat) : Int) % ((2 ^ 32 : Nat) : Int) = x / 4294967296 from by omega] at g1
  rw [show x / ((2 ^ 16 : Nat) : Int) % ((2 ^ 16 : Nat) : Int) = x / 65536 % 65536 from by omega] at g2
  rw [show x / ((2 ^ 12 : Nat) : Int) % ((2 ^ 4 : Nat) : Int) = x / 4096 % 16 from by omega] at g3
  rw [show x / ((2 ^ 0 : Nat) : Int) % ((2 ^ 12 : Nat) : Int) = x % 4096 from by omega] at g4
  have b1 : 0 ≤ x / 4294967296 ∧ x / 4294967296 < 4294967296 := by omega
  have b2 : 0 ≤ x / 65536 % 65536 ∧ x / 65536 % 65536 < 65536 := by omega
  have b3 : 0 ≤ x / 4096 % 16 ∧ x / 4096 % 16 < 16 := by omega
  have b4 : 0 ≤ x % 4096 ∧ x % 4096 < 4096 := by omega
  generalize x / 4294967296 = y1 at *
  generalize x / 65536 % 65536 = y2 at *
  generalize x / 4096 % 16 = y3 at *
  generalize x % 4096 = y4 at *
  obtain ⟨b11, b12⟩ := b1
  obtain ⟨b21, b22⟩ := b2
  obtain ⟨b31, b32⟩ := b3
  obtain ⟨b41, b42⟩ := b4
  have G1 := Lib.hid g1
  have G2 := Lib.hid g2
  have G3 := Lib.hid g3
  have G4 := Lib.hid g4
  clear g1 g2 g3 g4
  go_enter Tryz.func45, Tryz.ntmps45
  go_wp2_with (go_at_call 85; refine (get_c _ _ _ _ h0 h1).mono ?_; rintro e w' ⟨rfl, k, rfl⟩; first | rw [G1.out] | rw [G2.out] | rw [G3.out] | rw [G4.out])
  go_returns
  exact ⟨rfl, by ((repeat' (first | (with_reducible exact Keeps.refl _) | (with_reducible assumption) | (with_reducible refine Keeps.drewN ?_ _) | (with_reducible refine Keeps.drew ?_) | (with_reducible refine Keeps.alloc ?_ _) | (with_reducible refine Keeps.setCell ?_ ?_ _) | (with_reducible refine Keeps.trans ?_ (After.keeps _)) | (with_reducible refine Keeps.trans ?_ (by with_reducible assumption)) | go_size)); (first | done | fail))⟩

def liveB (g m x : Int) : Bool := decide (1 ≤ m) && (g == x)
theorem live_c (g m c o x : Int) (w : World) : Calls Tryz.prog 78 #[.agg #[.int .i64 g, .int .i64 m, .int .i64 c, .int .i64 o], .int .i64 x] w fun e w' => e = .returned (.bool (liveB g m x)) ∧ Keeps w w' := by
  go_enter Tryz.func78, Tryz.ntmps78
  go_wp2
  all_goals go_ret
  · have h : decide (1 ≤ m) = true := decide_eq_true (by assumption)
    exact ⟨by unfold liveB; rw [h]; rfl, by ((repeat' (first | (with_reducible exact Keeps.refl _) | (with_reducible assumption) | (with_reducible refine Keeps.drewN ?_ _) | (with_reducible refine Keeps.drew ?_) | (with_reducible refine Keeps.alloc ?_ _) | (with_reducible refine Keeps.setCell ?_ ?_ _) | (with_reducible refine Keeps.trans ?_ (After.keeps _)) | (with_reducible refine Keeps.trans ?_ (by with_reducible assumption)) | go_size)); (first | done | fail))⟩
  · have h : decide (1 ≤ m) = false := decide_eq_false (by omega)
    exact ⟨by unfold liveB; rw [h]; rfl, by ((repeat' (first | (with_reducible exact Keeps.refl _) | (with_reducible assumption) | (with_reducible refine Keeps.drewN ?_ _) | (with_reducible refine Keeps.drew ?_) | (with_reducible refine Keeps.alloc ?_ _) | (with_reducible refine Keeps.setCell ?_ ?_ _) | (with_reducible refine Keeps.trans ?_ (After.keeps _)) | (with_reducible refine Keeps.trans ?_ (by with_reducible assumption)) | go_size)); (first | done | fail))⟩

def chunkI (m : Int) : Int := if m < 2 then -1 else m - 2
theorem chunk_c (g m c o : Int) (w : World) (h1 : m ≤ 9223372036854775807) : Calls Tryz.prog 121 #[.agg #[.int .i64 g, .int .i64 m, .int .i64 c, .int .i64 o]] w fun e w' => e = .returned (.int .i64 (chunkI m)) ∧ Keeps w w' := by
  by_cases h : m < 2
  · have e : chunkI m = -1 := by unfold chunkI; rw [if_pos h]
    rw [e]
    clear e
    go_enter Tryz.func121, Tryz.ntmps121
    go_wp2
    go_ret
    exact ⟨rfl, by ((repeat' (first | (with_reducible exact Keeps.refl _) | (with_reducible assumption) | (with_reducible refine Keeps.drewN ?_ _) | (with_reducible refine Keeps.drew ?_) | (with_reducible refine Keeps.alloc ?_ _) | (with_reducible refine Keeps.setCell ?_ ?_ _) | (with_reducible refine Keeps.trans ?_ (After.keeps _)) | (with_reducible refine Keeps.trans ?_ (by with_reducible assumption)) | go_size)); (first | done | fail))⟩
  · have e : chunkI m = m - 2 := by unfold chunkI; rw [if_neg h]
    rw [e]
    clear e
    go_enter Tryz.func121, Tryz.ntmps121
    go_wp2
    go_ret
    exact ⟨rfl, by ((repeat' (first | (with_reducible exact Keeps.refl _) | (with_reducible assumption) | (with_reducible refine Keeps.drewN ?_ _) | (with_reducible refine Keeps.drew ?_) | (with_reducible refine Keeps.alloc ?_ _) | (with_reducible refine Keeps.setCell ?_ ?_ _) | (with_reducible refine Keeps.trans ?_ (After.keeps _)) | (with_reducible refine Keeps.trans ?_ (by with_reducible assumption)) | go_size)); (first | done | fail))⟩

def pinI (n : Int) : Int := if withinB n 0 4611686018427387903 then 2 * n + 1 else 0
def pinGet (x : Int) : Int := if x % 2 = 0 then 0 else x / 2
end Go.Proofs.YtaecapjicphdkaaGreat

/- What rundalemake.Number computes. -/
namespace Go.Proofs.YtaecapjicphdkaaGreat
set_option linter.unusedVariables false
set_option linter.unusedSimpArgs false
open Go Go.RowKit
set_option maxRecDepth 100000

theorem number_c (v n : Int) (w : World) (h : 1 ≤ n) (h2 : n ≤ 4611686018427387904) : Calls Tryz.prog 10 #[.int .i64 v, .int .i64 n] w fun e w' => e = .returned (.int .i64 (v % n)) ∧ w = w' := by
  have hn : (n == 0) = false := by simp; omega
  have hn2 : n ≠ 0 := by omega
  go_enter Tryz.func10, Tryz.ntmps10
  go_wp2
  all_goals go_ret
  · have h3 : v.tmod n < 0 := by assumption
    have h4 := tmod_low h h3
    refine ⟨?_, rfl⟩
    show Ending.returned (.int .i64 (wrap64 (v.tmod n + n))) = _
    rw [h4.1]
    have h5 := Int.emod_lt_of_pos v (show 0 < n by omega)
    have h6 := Int.emod_nonneg v (show n ≠ 0 by omega)
    have h7 : wrap64 (v % n) = v % n := by
      generalize v % n = z at *
      unfold wrap64
      omega
    rw [h7]
  · have h3 : 0 ≤ v.tmod n := by assumption
    exact ⟨by rw [← tmod_high h h3]; rfl, rfl⟩

theorem mod_bd (v : Int) (n : Int) (h : 1 ≤ n) : 0 ≤ v % n ∧ v % n < n := ⟨Int.emod_nonneg v (by omega), Int.emod_lt_of_pos v (by omega)⟩
end Go.Proofs.YtaecapjicphdkaaGreat

/- What the document's answer on bits computes, and Number: each function walked once. -/
namespace Go.Proofs.YtaecapjicphdkaaGreat
set_option linter.unusedVariables false
set_option linter.unusedSimpArgs false
open Go Go.RowKit
set_option maxRecDepth 100000

end Go.Proofs.YtaecapjicphdkaaGreat
