/- The laws on bits: each walked, by the contracts of what it calls. -/
import Derived.Test.YtendglgcimdcpaaRef1W
namespace Go.Proofs.Ytendglgcimdcpaa
set_option linter.unusedVariables false
set_option linter.unusedSimpArgs false
open Go Go.RowKit
set_option maxRecDepth 100000

theorem bfirst_c (w : World) : Calls Try.prog 17 #[] w fun e w' => e = .returned (.bool true) ∧ ∃ k, w' = w.drewN k := by
  have HP : Hid (putI 0 4 8 255 = 4080) := by show putI 0 4 8 255 = 4080; decide +kernel
  have HQ : Hid (putB 4 8 255 = true) := by show putB 4 8 255 = true; decide +kernel
  have HG : Hid (getI 4080 8 4 = 15) := by show getI 4080 8 4 = 15; decide +kernel
  have HM : Hid (maskI 3 = 7) := by show maskI 3 = 7; decide +kernel
  go_enter Try.func17, Try.ntmps17
  go_wp2_with (first
    | (go_at_call 18; refine (put_c _ _ _ _ _ (by omega) (by omega) (by omega) (by omega)).mono ?_; rintro e w' ⟨rfl, k1, rfl⟩; rw [HP.out, HQ.out])
    | (go_at_call 24; refine (get_c _ _ _ _ (by omega) (by omega)).mono ?_; rintro e w' ⟨rfl, k2, rfl⟩; rw [HG.out])
    | (go_at_call 20; refine (mask_c _ _).mono ?_; rintro e w' ⟨rfl, rfl⟩; rw [HM.out]))
  go_ret
  exact ⟨rfl, ⟨_, rfl⟩⟩

set_option maxHeartbeats 400000 in
theorem bitsSays_c (x a n v : Int) (w : World) (x0 : 0 ≤ x) (x1 : x < 18446744073709551616) (h0 : 0 ≤ v) (h1 : v < 18446744073709551616) :
    Calls Try.prog 3 #[.int .u64 x, .int .i64 a, .int .i64 n, .int .u64 v] w fun e w' => e = .returned (.bool true) ∧ ∃ k, w' = w.drewN k := by
  go_enter Try.func3, Try.ntmps3
  go_wp2_with (first
    | (go_at_call 17; refine (bfirst_c _).mono ?_; rintro e w' ⟨rfl, k1, rfl⟩)
    | (go_at_call 18; refine (put_c _ _ _ _ _ x0 x1 h0 h1).mono ?_; rintro e w' ⟨rfl, k2, rfl⟩)
    | (go_at_call 19; refine (rput_c _ _ _ _ _ x0 x1 h0 h1).mono ?_; rintro e w' ⟨rfl, k3, rfl⟩)
    | (go_at_call 24; refine (get_c _ _ _ _ x0 x1).mono ?_; rintro e w' ⟨rfl, k4, rfl⟩)
    | (go_at_call 25; refine (rget_c _ _ _ _ x0 x1).mono ?_; rintro e w' ⟨rfl, k5, rfl⟩)
    | (go_at_call 22; refine (fits_c _ _ _ h0 h1).mono ?_; rintro e w' ⟨rfl, rfl⟩)
    | (go_at_call 23; refine (rfits_c _ _ _).mono ?_; rintro e w' ⟨rfl, rfl⟩)
    | (go_at_call 20; refine (mask_c _ _).mono ?_; rintro e w' ⟨rfl, rfl⟩)
    | (go_at_call 21; refine (rmask_c _ _).mono ?_; rintro e w' ⟨rfl, rfl⟩))
  go_ret
  exact ⟨rfl, ⟨_, rfl⟩⟩

set_option maxHeartbeats 400000 in
theorem bitsBack_c (x a n v : Int) (w : World) (x0 : 0 ≤ x) (x1 : x < 18446744073709551616) (h0 : 0 ≤ v) (h1 : v < 18446744073709551616) :
    Calls Try.prog 4 #[.int .u64 x, .int .i64 a, .int .i64 n, .int .u64 v] w fun e w' => e = .returned (.bool true) ∧ ∃ k, w' = w.drewN k := by
  obtain ⟨y, rfl⟩ := Int.eq_ofNat_of_zero_le x0
  obtain ⟨m, hm, hm2⟩ := mod_nat n 65 (by omega)
  obtain ⟨b, hb, hb2⟩ := mod_nat a (65 - m) (by omega)
  obtain ⟨u, hu, hu2, hu3, hu4, hu5⟩ := and_mask_lt v m h0 h1 (by omega)
  clear hu4 hu5
  obtain ⟨hp, hq⟩ := putI_nat (x := y) (show b + m ≤ 64 by omega) hu2
  have hp3 := putN_lt y b m u (by omega) (show b + m ≤ 64 by omega) hu2
  obtain ⟨hp2, hq2⟩ := putI_nat (x := putN y b m u) (show b + m ≤ 64 by omega) hu2
  rw [put_put y b m u u hu2 hu2] at hp2
  have hg := getI_nat (x := y) (show b + m ≤ 64 by omega)
  have hg2 := getI_nat (x := putN y b m u) (show b + m ≤ 64 by omega)
  rw [getN_put y b m u hu2] at hg2
  have hg3 := getN_u64 (x := y) (a := b) (show m ≤ 64 by omega)
  obtain ⟨hr, hs⟩ := putI_nat (x := putN y b m u) (show b + m ≤ 64 by omega) (getN_lt y b m)
  rw [put_put y b m u _ hu2 (getN_lt y b m), put_get y b m] at hr
  generalize getN y b m = g at *
  generalize putN y b m u = p at *
  have hy : y < 18446744073709551616 := by omega
  have Hm := Lib.hid hm
  have Hb := Lib.hid hb
  have Hp := Lib.hid hp
  have Hq := Lib.hid hq
  have Hp2 := Lib.hid hp2
  have Hg := Lib.hid hg
  have Hg2 := Lib.hid hg2
  have Hr := Lib.hid hr
  have Hs := Lib.hid hs
  have B0 : Hid (v < 18446744073709551616 ∧ y < 18446744073709551616 ∧ u < 18446744073709551616 ∧ p < 18446744073709551616 ∧ g < 18446744073709551616) := Lib.hid ⟨h1, hy, hu3, hp3, hg3⟩
  clear hq2 hm hb hp hq hp2 hg hg2 hr hs x1 h1 hu2 hu3 hp3 hg3 hy
  go_enter Try.func4, Try.ntmps4
  go_wp2_with (first
    | (go_at_call 17; refine (bfirst_c _).mono ?_; rintro e w' ⟨rfl, k1, rfl⟩)
    | (go_at_call 26; refine (number_c _ _ _ (by omega) (by omega)).mono ?_; rintro e w' ⟨rfl, rfl⟩; first | rw [Hm.out] | rw [Hb.out])
    | (go_at_call 20; refine (mask_c _ _).mono ?_; rintro e w' ⟨rfl, rfl⟩)
    | (go_at_call 18; refine (put_c _ _ _ _ _ (by omega) (by have := B0.out; omega) (by omega) (by have := B0.out; omega)).mono ?_; rintro e w' ⟨rfl, k2, rfl⟩; first | rw [Hp.out, Hq.out] | rw [Hp2.out, Hq.out] | rw [Hr.out, Hs.out])
    | (go_at_call 24; refine (get_c _ _ _ _ (by omega) (by have := B0.out; omega)).mono ?_; rintro e w' ⟨rfl, k4, rfl⟩; first | rw [Hg.out] | rw [Hg2.out]))
  go_ret
  exact ⟨rfl, ⟨_, rfl⟩⟩

set_option maxHeartbeats 800000 in
theorem bitsApart_c (x at_ gap a b v u : Int) (w : World) (x0 : 0 ≤ x) (x1 : x < 18446744073709551616) (h0 : 0 ≤ v) (h1 : v < 18446744073709551616) (g0 : 0 ≤ u) (g1 : u < 18446744073709551616) :
    Calls Try.prog 5 #[.int .u64 x, .int .i64 at_, .int .i64 gap, .int .i64 a, .int .i64 b, .int .u64 v, .int .u64 u] w fun e w' => e = .returned (.bool true) ∧ ∃ k, w' = w.drewN k := by
  obtain ⟨y, rfl⟩ := Int.eq_ofNat_of_zero_le x0
  obtain ⟨m, hm, hm2⟩ := mod_nat a 30 (by omega)
  obtain ⟨n, hn, hn2⟩ := mod_nat b 30 (by omega)
  obtain ⟨p, hp, hp2⟩ := mod_nat at_ 3 (by omega)
  obtain ⟨q, hq, hq2⟩ := mod_nat gap 3 (by omega)
  obtain ⟨v1, hv, hv2, hv3, hv4, hv5⟩ := and_mask_lt v m h0 h1 (by omega)
  obtain ⟨u1, hu, hu2, hu3, hu4, hu5⟩ := and_mask_lt u n g0 g1 (by omega)
  clear hv4 hv5 hu4 hu5
  have hy : y < 18446744073709551616 := by omega
  have hX := putN_lt y p m v1 hy (show p + m ≤ 64 by omega) hv2
  have hP := putN_lt y (p + m + q) n u1 hy (show p + m + q + n ≤ 64 by omega) hu2
  have hY := putN_lt (putN y p m v1) (p + m + q) n u1 hX (show p + m + q + n ≤ 64 by omega) hu2
  have e1 := putI_nat (x := y) (show p + m ≤ 64 by omega) hv2
  have e2 := putI_nat (x := putN y p m v1) (show p + m + q + n ≤ 64 by omega) hu2
  have e3 := putI_nat (x := y) (show p + m + q + n ≤ 64 by omega) hu2
  have e4 := putI_nat (x := putN y (p + m + q) n u1) (show p + m ≤ 64 by omega) hv2
  rw [← put_comm y p m v1 (p + m + q) n u1 hv2 hu2 (by omega)] at e4
  have e5 := getI_nat (x := putN (putN y p m v1) (p + m + q) n u1) (show p + m ≤ 64 by omega)
  have e6 := getI_nat (x := putN (putN y p m v1) (p + m + q) n u1) (show p + m + q + n ≤ 64 by omega)
  have e7 := getI_nat (x := putN y p m v1) (show p + m + q + n ≤ 64 by omega)
  have e8 := getI_nat (x := y) (show p + m + q + n ≤ 64 by omega)
  rw [get_put_other _ _ _ _ _ _ hu2 (by omega), getN_put _ _ _ _ hv2] at e5
  rw [getN_put _ _ _ _ hu2] at e6
  rw [get_put_other _ _ _ _ _ _ hv2 (by omega)] at e7
  simp only [Int.natCast_add] at e2 e3 e6 e7 e8
  generalize getN y (p + m + q) n = g at *
  generalize putN (putN y p m v1) (p + m + q) n u1 = Y at *
  generalize putN y p m v1 = X at *
  generalize putN y (p + m + q) n u1 = P at *
  have Hm := Lib.hid hm
  have Hn := Lib.hid hn
  have Hp := Lib.hid hp
  have Hq := Lib.hid hq
  have E1 := Lib.hid e1
  have E2 := Lib.hid e2
  have E3 := Lib.hid e3
  have E4 := Lib.hid e4
  have E5 := Lib.hid e5
  have E6 := Lib.hid e6
  have E7 := Lib.hid e7
  have E8 := Lib.hid e8
  have B0 : Hid (v < 18446744073709551616 ∧ u < 18446744073709551616 ∧ y < 18446744073709551616 ∧ v1 < 18446744073709551616 ∧ u1 < 18446744073709551616 ∧ X < 18446744073709551616 ∧ Y < 18446744073709551616 ∧ P < 18446744073709551616) := Lib.hid ⟨h1, g1, hy, hv3, hu3, hX, hY, hP⟩
  clear hm hn hp hq e1 e2 e3 e4 e5 e6 e7 e8 h1 g1 hy hv3 hu3 hX hY hP hv2 hu2 x1
  go_enter Try.func5, Try.ntmps5
  go_wp2_with (first
    | (go_at_call 17; refine (bfirst_c _).mono ?_; rintro e w' ⟨rfl, k1, rfl⟩)
    | (go_at_call 26; refine (number_c _ _ _ (by omega) (by omega)).mono ?_; rintro e w' ⟨rfl, rfl⟩; first | rw [Hm.out] | rw [Hn.out] | rw [Hp.out] | rw [Hq.out])
    | (go_at_call 20; refine (mask_c _ _).mono ?_; rintro e w' ⟨rfl, rfl⟩)
    | (go_at_call 18; refine (put_c _ _ _ _ _ (by omega) (by have := B0.out; omega) (by omega) (by have := B0.out; omega)).mono ?_; rintro e w' ⟨rfl, k2, rfl⟩; first | rw [E1.out.1, E1.out.2] | rw [E2.out.1, E2.out.2] | rw [E3.out.1, E3.out.2] | rw [E4.out.1, E4.out.2])
    | (go_at_call 24; refine (get_c _ _ _ _ (by omega) (by have := B0.out; omega)).mono ?_; rintro e w' ⟨rfl, k4, rfl⟩; first | rw [E5.out] | rw [E6.out] | rw [E7.out] | rw [E8.out]))
  go_ret
  exact ⟨rfl, ⟨_, rfl⟩⟩

set_option maxHeartbeats 800000 in
theorem bitsNone_c (x a n v : Int) (w : World) (x0 : 0 ≤ x) (x1 : x < 18446744073709551616) (h0 : 0 ≤ v) (h1 : v < 18446744073709551616) :
    Calls Try.prog 6 #[.int .u64 x, .int .i64 a, .int .i64 n, .int .u64 v] w fun e w' => e = .returned (.bool true) ∧ ∃ k, w' = w.drewN k := by
  obtain ⟨m, hm, hm2⟩ := mod_nat n 65 (by omega)
  obtain ⟨b, hb, hb2⟩ := mod_nat a 1000 (by omega)
  obtain ⟨l, hl, hl2⟩ := mod_nat n 64 (by omega)
  obtain ⟨o, ho, ho2⟩ := mod_nat n 1000 (by omega)
  have hml := maskI_bd l
  have hml2 : maskI l < 18446744073709551615 := by
    rw [maskI_nat l (by omega)]
    have h := Nat.pow_le_pow_right (n := 2) (by omega) (show l ≤ 63 by omega)
    omega
  obtain ⟨v7, hv, hv2, hv3, hv4, hv5⟩ := and_mask_lt v 3 h0 h1 (by omega)
  rw [show maskI (3 : Nat) = 7 from by decide +kernel] at hv
  clear hv4 hv5 hv2
  have e1 := put_no (x := x) (a := 65 - m + b) (n := m) (v := 0) (.inl (by rw [fieldB_false]; omega))
  have e2 := put_no (x := x) (a := 0) (n := l) (v := maskI l + 1) (.inr (by omega))
  have e3 := put_no (x := x) (a := -1 - b) (n := 3) (v := v7) (.inl (by rw [fieldB_false]; omega))
  have e4 := put_no (x := x) (a := 0) (n := -1 - o) (v := 0) (.inl (by rw [fieldB_false]; omega))
  have e5 := get_no (x := x) (a := 65 - m + b) (n := m) (by rw [fieldB_false]; omega)
  have e6 := get_no (x := x) (a := 0) (n := 65 + b) (by rw [fieldB_false]; omega)
  have Hm := Lib.hid hm
  have Hb := Lib.hid hb
  have Hl := Lib.hid hl
  have Ho := Lib.hid ho
  have E1 := Lib.hid e1
  have E2 := Lib.hid e2
  have E3 := Lib.hid e3
  have E4 := Lib.hid e4
  have E5 := Lib.hid e5
  have E6 := Lib.hid e6
  have B0 : Hid (x < 18446744073709551616 ∧ maskI l < 18446744073709551615 ∧ 0 ≤ maskI l ∧ v7 < 18446744073709551616) := Lib.hid ⟨x1, hml2, hml.1, hv3⟩
  clear hm hb hl ho e1 e2 e3 e4 e5 e6 h1 x1 hml hml2 hv3
  go_enter Try.func6, Try.ntmps6
  go_wp2_with (first
    | (go_at_call 17; refine (bfirst_c _).mono ?_; rintro e w' ⟨rfl, k1, rfl⟩)
    | (go_at_call 26; refine (number_c _ _ _ (by omega) (by omega)).mono ?_; rintro e w' ⟨rfl, rfl⟩; first | rw [Hm.out] | rw [Hb.out] | rw [Hl.out] | rw [Ho.out])
    | (go_at_call 20; refine (mask_c _ _).mono ?_; rintro e w' ⟨rfl, rfl⟩; have hbm := B0.out.2)
    | (go_at_call 18; refine (put_c _ _ _ _ _ (by omega) (by have := B0.out; omega) (by omega) (by have := B0.out; omega)).mono ?_; rintro e w' ⟨rfl, k2, rfl⟩; first | rw [E1.out.1, E1.out.2] | rw [E2.out.1, E2.out.2] | rw [E3.out.1, E3.out.2] | rw [E4.out.1, E4.out.2])
    | (go_at_call 24; refine (get_c _ _ _ _ (by omega) (by have := B0.out; omega)).mono ?_; rintro e w' ⟨rfl, k4, rfl⟩; first | rw [E5.out] | rw [E6.out]))
  go_ret
  exact ⟨rfl, ⟨_, rfl⟩⟩

theorem maskI_dbl (l : Nat) (h : l < 64) : IntKind.u64.wrap (IntKind.u64.wrap (2 * maskI l) + 1) = maskI (l + 1) ∧ maskI (l + 1) < 18446744073709551616 := by
  have h1 := maskI_nat l (by omega)
  have h2 := maskI_nat (l + 1) (by omega)
  rw [show ((l + 1 : Nat) : Int) = (l : Int) + 1 by omega] at h2
  rw [h1, h2]
  have h3 := two_pow_le_64 (n := l + 1) (by omega)
  have h4 := two_pow_pos l
  rw [Nat.pow_succ] at h3 ⊢
  simp only [IntKind.wrap_u64]
  generalize 2 ^ l = z at *
  omega

set_option maxHeartbeats 800000 in
theorem bitsMasks_c (n v : Int) (w : World) (h0 : 0 ≤ v) (h1 : v < 18446744073709551616) :
    Calls Try.prog 7 #[.int .i64 n, .int .u64 v] w fun e w' => e = .returned (.bool true) ∧ ∃ k, w' = w.drewN k := by
  obtain ⟨l, hl, hl2⟩ := mod_nat n 64 (by omega)
  have e1 := (maskI_dbl l (by omega)).1
  have e2 := maskI_neg (n := -(l : Int)) (by omega)
  have e3 := maskI_big (n := 64 + (l : Int)) (by omega)
  obtain ⟨u, hu, hu2, hu3, hu4, hu5⟩ := and_mask_lt v l h0 h1 (by omega)
  have hm := maskI_nat l (by omega)
  have hle : decide ((u : Int) ≤ maskI l) = true := by
    rw [hm]; exact decide_eq_true (by omega)
  have hbig : decide (v ≤ 18446744073709551615) = true := decide_eq_true (by omega)
  clear hu4 hu5 hu2 hm
  have Hl := Lib.hid hl
  have E1 := Lib.hid e1
  have E2 := Lib.hid e2
  have E3 := Lib.hid e3
  have HB := Lib.hid hbig
  have HL := Lib.hid hle
  have B0 : Hid (v < 18446744073709551616 ∧ u < 18446744073709551616) := Lib.hid ⟨h1, hu3⟩
  clear hl e1 e2 e3 h1 hu3 hbig hle
  go_enter Try.func7, Try.ntmps7
  go_wp2_with (first
    | (go_at_call 17; refine (bfirst_c _).mono ?_; rintro e w' ⟨rfl, k1, rfl⟩)
    | (go_at_call 26; refine (number_c _ _ _ (by omega) (by omega)).mono ?_; rintro e w' ⟨rfl, rfl⟩; rw [Hl.out])
    | (go_at_call 20; refine (mask_c _ _).mono ?_; rintro e w' ⟨rfl, rfl⟩; first | rw [E2.out] | rw [E3.out] | rw [← E1.out] | skip)
    | (go_at_call 22; refine (fits_c _ _ _ (by omega) (by have := B0.out; omega)).mono ?_; rintro e w' ⟨rfl, rfl⟩; first | rw [E3.out, HB.out] | rw [HL.out] | skip))
  go_ret
  exact ⟨rfl, ⟨_, rfl⟩⟩

end Go.Proofs.Ytendglgcimdcpaa
