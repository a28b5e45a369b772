/- The law ChainBack, walked. -/
import Derived.Test.YtcohhfndaogikaaChainG
namespace Go.Proofs.Ytcohhfndaogikaa
set_option linter.unusedVariables false
set_option linter.unusedSimpArgs false
open Go Go.RowKit
set_option maxRecDepth 100000
set_option maxHeartbeats 2000000

theorem number_ex (v n : Int) (w : World) (h : 1 ≤ n) (h2 : n ≤ 4611686018427387904) : Calls Try.prog 16 #[.int .i64 v, .int .i64 n] w fun e w' => ∃ q : Nat, e = .returned (.int .i64 q) ∧ (q : Int) < n ∧ w = w' := by
  have hb := mod_bd v n h
  obtain ⟨q, hq⟩ := Int.eq_ofNat_of_zero_le hb.1
  refine (number_c v n w h h2).mono ?_
  rintro e w' ⟨rfl, rfl⟩
  exact ⟨q, by rw [hq], by omega, rfl⟩
/-- The numbers from one on. -/
def upL (i k : Nat) : List Int := (List.range (k - i)).map fun t => ((i + t : Nat) : Int)
theorem upL_len (i k : Nat) : (upL i k).length = k - i := by simp [upL]
theorem upL_at {i k t : Nat} (d : Int) (h : t < k - i) : (upL i k).getD t d = ((i + t : Nat) : Int) := by
  rw [List.getD_eq_getElem?_getD]; simp [upL, List.getElem?_range h]
theorem upL_snoc {i k : Nat} (h : i ≤ k) : upL i (k + 1) = upL i k ++ [(k : Int)] := by
  unfold upL
  rw [show k + 1 - i = (k - i) + 1 by omega, List.range_succ, List.map_append]
  simp
  omega
theorem upL_list {K q i : Nat} {l : List Int} (hK : K ≤ 4096) (hq : q < K) (hi : i ≤ q) (h : ∀ j : Int, -1 < j → j ≤ q → l.getD (6 + j).toNat 0 = if j = q then 0 else j + 2) : listFrom 6 K l K (i : Int) = upL i (q + 1) := by
  have hl := upL_len i (q + 1)
  have key := Lnk.onto (lk := 6) (n := K) (l := l) (i := -1) (L := []) rfl (upL i (q + 1)) (fun z hz => by
    unfold upL at hz
    obtain ⟨t, ht, rfl⟩ := List.mem_map.1 hz
    have := List.mem_range.1 ht
    omega) (fun t ht => by
    rw [hl] at ht
    rw [upL_at _ ht]
    have := h ((i + t : Nat) : Int) (by omega) (by omega)
    rw [show (((6 : Nat) : Int) + ((i + t : Nat) : Int)) = 6 + ((i + t : Nat) : Int) from rfl, this]
    by_cases he : ((i + t : Nat) : Int) = q
    · rw [if_pos he, getD_end (zs := upL i (q + 1)) _ (by omega)]; rfl
    · rw [if_neg he, upL_at _ (by omega)]; omega)
  rw [upL_at _ (by omega), List.append_nil, Nat.add_zero] at key
  exact key.list K (by omega)
def sumDown (k : Nat) : Nat → Nat
  | 0 => 0
  | i + 1 => sumDown k i + (k - i)
theorem sumDown_le (k : Nat) : ∀ i : Nat, sumDown k i ≤ i * k
  | 0 => by simp [sumDown]
  | i + 1 => by have := sumDown_le k i; simp only [sumDown, Nat.succ_mul]; omega
theorem chainBack_c (n step : Int) (w : World) :
    Calls Try.prog 4 #[.int .i64 n, .int .i64 step] w fun e w' => e = .returned (.bool true) ∧ Keeps w w' := by
  go_enter Try.func4, Try.ntmps4
  go_wp2_with (first
    | (go_at_call 13; refine (chainFirst_c _).mono ?_; rintro e w' ⟨rfl, K0⟩)
    | (go_at_call 14; refine (csize_c _ _).mono ?_; rintro e w' ⟨K, rfl, ⟨k3, k10, -⟩, hks⟩; have K0 := K0.trans hks; have HC := Has.new w' (cfgA 1 K 8 1 0 1) 25; have K0 := K0.alloc (.cells (cfgA 1 K 8 1 0 1) 25))
    | (go_at_call 15; refine (cmade_c K _ k3 k10).mono ?_; rintro e w' ⟨m, bb, X, P, rfl, hk, hm, hb, hX, hP, H⟩; have k0s := K0.size; have K0 := K0.trans hk; have hm := Nat.le_trans k0s hm; have hb := Nat.le_trans k0s hb; have HC := HC.keeps hk; have FX_ := (HC).facts; simp only [blockFacts, listFacts, cellsAt, Nat.reduceAdd, and_true, true_and, and_assoc] at FX_)
    | (go_at_call 16; refine (number_ex _ _ _ (by omega) (by omega)).mono ?_; rintro e w' ⟨q, rfl, hqK, rfl⟩))
  have A0 := Lib.hid (And.intro H K0)
  clear H K0 HC hk hks
  go_loopw [10] (fun iv wr => ∃ (i : Int) (l : List Int), -1 ≤ i ∧ i ≤ q ∧ iv = .int .i64 i ∧ ChAt wr m bb (9 * K + 6) X P 6 K 1 8 1 0 1 l (q - i) ∧ Hid (∀ j : Int, i < j → j ≤ q → l.getD (6 + j).toNat 0 = if j = q then 0 else j + 2) ∧ Keeps w wr) (fun iv _ => (intOf iv + 1).toNat)
  case atStart => exact ⟨q, _, by omega, by omega, by first | rfl | go_num, by rw [Int.sub_self]; exact A0.out.1, Lib.hid (fun j h1 h2 => by omega), A0.out.2⟩
  case round =>
    clear A0
    obtain ⟨i, l, hi0, hi1, rfl, H, hP, K0⟩ := hrel
    by_cases hge : 0 ≤ i
    · have hlen := H.ok.len
      have eN : (6 + i).toNat < l.length := by omega
      by_cases hlast : i = q
      · subst hlast
        have qe : ((q : Int) == 1 + (q : Int) - 1) = true := by rw [beq_iff_eq]; omega
        have HW : Hid (∀ j : Int, (q : Int) - 1 < j → j ≤ q → (l.set (6 + (q : Int)).toNat (-1 + 1)).getD (6 + j).toNat 0 = if j = q then 0 else j + 2) := Lib.hid (fun j h1 h2 => by
          obtain rfl : j = q := by omega
          rw [if_pos rfl]; exact getD_set_eq _ eN)
        go_wp2_with (go_at_call 17; refine (csets_c q (-1) (6 + (q : Int)).toNat H (inB_yes (by omega) (by omega)) (.inl rfl) (by omega) (by omega)).mono ?_; rintro e w' ⟨rfl, hu, H⟩; have K0 := K0.upd hu (ge_mb hm hb))
        go_roundw
        case rel => exact ⟨(q : Int) - 1, _, by omega, by omega, rfl, by rw [show (q : Int) - ((q : Int) - 1) = (q : Int) - q + 1 by omega]; exact H, HW, K0⟩
        case measure => simp [intOf] <;> omega
      · have qe : (i == 1 + (q : Int) - 1) = false := by rw [beq_eq_false_iff_ne]; omega
        have HW : Hid (∀ j : Int, i - 1 < j → j ≤ q → (l.set (6 + i).toNat (i + 1 + 1)).getD (6 + j).toNat 0 = if j = q then 0 else j + 2) := Lib.hid (fun j h1 h2 => by
          by_cases hj : j = i
          · subst hj
            rw [if_neg hlast, getD_set_eq _ eN]; omega
          · rw [getD_set_ne _ (by omega)]; exact hP.out j (by omega) h2)
        have hlq : i + 1 ≤ q := by omega
        clear hlast
        go_wp2_with (go_at_call 17; refine (csets_c i (i + 1) (6 + i).toNat H (inB_yes (by omega) (by omega)) (.inr (inB_yes (by omega) (by omega))) (by omega) (by omega)).mono ?_; rintro e w' ⟨rfl, hu, H⟩; have K0 := K0.upd hu (ge_mb hm hb))
        go_roundw
        case rel => exact ⟨i - 1, _, by omega, by omega, rfl, by rw [show (q : Int) - (i - 1) = (q : Int) - i + 1 by omega]; exact H, HW, K0⟩
        case measure => simp [intOf] <;> omega
    · obtain rfl : i = -1 := by omega
      have HLs : Hid (∀ i : Nat, i ≤ q → listFrom 6 K l K (i : Int) = upL i (q + 1)) := Lib.hid (fun i h => upL_list (by omega) (by omega) h hP.out)
      have A0 := Lib.hid (And.intro H K0)
      clear H K0 hP
      go_wp2
      go_loopw [12] (fun iv wr => ∃ (i : Nat), i ≤ q + 1 ∧ iv = .int .i64 i ∧ ChAt wr m bb (9 * K + 6) X P 6 K 1 8 1 0 1 l ((q + 1 + sumDown (q + 1) i : Nat) : Int) ∧ Keeps w wr) (fun iv _ => (q + 1) - (intOf iv).toNat)
      case atStart => exact ⟨0, by omega, rfl, by rw [show ((q + 1 + sumDown (q + 1) 0 : Nat) : Int) = (q : Int) - -1 by simp [sumDown]]; exact A0.out.1, A0.out.2⟩
      case round =>
        clear A0
        obtain ⟨i, hi, rfl, H, K0⟩ := hrel
        have hi1' : Hid (((i : Int) + 1) = ((i + 1 : Nat) : Int)) := Lib.hid (by omega)
        have hsd := sumDown_le (q + 1) i
        have hsd2 : sumDown (q + 1) i ≤ 200 := by
          have := Nat.mul_le_mul hi (show q + 1 ≤ 10 by omega)
          omega
        clear hsd
        by_cases hlt : i < q + 1
        · have hlt' : (i : Int) < 1 + (q : Int) := by omega
          obtain ⟨W0, hW0⟩ : ∃ W0, W0 = wr := ⟨_, rfl⟩
          subst hW0
          have HA := Lib.hid (And.intro H K0)
          clear H K0
          go_wp2
          go_loopw [13, 14] (fun av jv wq => ∃ (j : Nat), i ≤ j ∧ j ≤ q + 1 ∧ jv = .int .i64 j ∧ Row W0.heap.size 3 wq av (ivals (upL i j)) ∧ Keeps W0 wq) (fun _ jv _ => (q + 1) - (intOf jv).toNat)
          case atStart => exact ⟨i, Nat.le_refl _, by omega, rfl, by simpa [upL] using Row.nil _ _ _, Keeps.refl _⟩
          case round =>
            obtain ⟨j, hij, hj, rfl, R, KQ⟩ := hrel
            have hj1 : Hid (((j : Int) + 1) = ((j + 1 : Nat) : Int)) := Lib.hid (by omega)
            have K1 := HA.out.2.trans KQ
            have szr := KQ.size
            have hul : (upL i j).length ≤ 1000 := by rw [upL_len]; omega
            obtain ⟨ad, cap, hv, -⟩ := R.reads
            subst hv
            by_cases hjl : j < q + 1
            · have hjl' : (j : Int) < 1 + (q : Int) := by omega
              have HS := Lib.hid (upL_snoc hij)
              go_wp2_with (at_builtin; refine wpList_append_ints (B := W0.heap.size) (xs := upL i j) (ys := [(j : Int)]) rfl _ _ rfl _ rfl rfl (R.alloc _) (Has.src (Has.newAt (by simp)) _) (by simp; omega) (by simp; omega) ?_; intro v1 w1 R1 U1 O1)
              have KQ2 := (KQ.alloc (.cells #[.int .i64 (j : Int)] 3)).upd U1 (fun y hy => (R.own y hy).1)
              go_roundw
              case rel => exact ⟨j + 1, by omega, by omega, by go_num, by rw [HS.out]; exact R1, KQ2⟩
              case measure => simp [intOf] <;> omega
            · obtain rfl : j = q + 1 := by omega
              have H := HA.out.1.keeps KQ
              have K0 := K1
              have HLi := Lib.hid (HLs.out i (by omega))
              have hnj : ¬ ((q + 1 : Nat) : Int) < 1 + (q : Int) := by omega
              have tk : True := trivial
              go_wp2_with (first
                | (go_at_call 18; refine (cwalks_c i H (inB_yes (by omega) (by omega)) (by omega) (by omega)).mono ?_; rintro e w' ⟨v, rfl, hu, H, RW⟩; rw [HLi.out] at RW H ⊢; rw [upL_len] at H; have R := R.upd hu (fun y hy => by obtain ⟨x0, M0⟩ := HA.out.1.mem; simp only [List.mem_cons, List.not_mem_nil, or_false, not_or]; exact ⟨R.ne (M0.keeps KQ).hg (by decide) y hy, R.ne (M0.keeps KQ).hb (by decide) y hy⟩); have K0 := K0.upd hu (ge_mb hm hb))
                | (go_at_call 22; have t_ := tk; clear t_ tk; refine (sameInts_yes _ _ _ _ RW.reads R.reads (by omega)).mono ?_; rintro e w' ⟨rfl, hk6⟩; have R := R.keeps hk6; have H := H.keeps hk6; have K0 := K0.trans hk6)
                | (go_at_call 19; refine ((xlist_c i H.hX H.mem.choose_spec H.ok H.may H.hlk (inB_yes (by omega) (by omega)))).mono ?_; rintro e w' ⟨v5, rfl, hk5, R5⟩; rw [HLi.out] at R5; have H := H.keeps hk5; have R := R.keeps hk5; have K0 := K0.trans hk5)
                | (go_at_call 22; refine (sameInts_yes _ _ _ _ R5.reads R.reads (by omega)).mono ?_; rintro e w' ⟨rfl, hk6⟩; have H := H.keeps hk6; have K0 := K0.trans hk6))
              go_roundw
              case rel => exact ⟨i + 1, by omega, by go_num, by rw [show ((q + 1 + sumDown (q + 1) (i + 1) : Nat) : Int) = ((q + 1 + sumDown (q + 1) i : Nat) : Int) + ((q + 1 - i : Nat) : Int) by simp only [sumDown]; omega]; exact H, K0⟩
              case measure => simp [intOf] <;> omega
        · obtain rfl : i = q + 1 := by omega
          have hnl : ¬ ((q + 1 : Nat) : Int) < 1 + (q : Int) := by omega
          obtain ⟨x0, M0⟩ := H.mem
          have hq10 : q = 0 ∨ q = 1 ∨ q = 2 ∨ q = 3 ∨ q = 4 ∨ q = 5 ∨ q = 6 ∨ q = 7 ∨ q = 8 ∨ q = 9 := by omega
          clear HLs hi1' hi hsd2 hi0 hi1 hge
          rcases hq10 with rfl | rfl | rfl | rfl | rfl | rfl | rfl | rfl | rfl | rfl
          all_goals
            go_wp2_with (go_at_call 23; refine (mcount M0).mono ?_; rintro e w' ⟨rfl, rfl⟩)
            go_ret
            exact ⟨rfl, K0⟩
end Go.Proofs.Ytcohhfndaogikaa
