/- chain's statements: size, made, the chapter's example, walked. -/
import Derived.Test.YtcohhfndaogikaaChainF
namespace Go.Proofs.Ytcohhfndaogikaa
set_option linter.unusedVariables false
set_option linter.unusedSimpArgs false
open Go Go.RowKit
set_option maxRecDepth 100000
set_option maxHeartbeats 1000000

theorem csize_c (n : Int) (w : World) :
    Calls Try.prog 14 #[.int .i64 n] w fun e w' => ∃ K : Nat, e = .returned (cfgV 1 K 8 1 0 1) ∧ (3 ≤ K ∧ K ≤ 10 ∧ (K : Int) = 3 + n % 8) ∧ Keeps w w' := by
  have hb := mod_bd n 8 (by omega)
  obtain ⟨q, hq⟩ := Int.eq_ofNat_of_zero_le hb.1
  have HQ := Lib.hid hq
  have hq8 : q < 8 := by omega
  clear hb hq
  go_enter Try.func14, Try.ntmps14
  go_wp2_with (go_at_call 16; refine (number_c _ _ _ (by omega) (by omega)).mono ?_; rintro e w' ⟨rfl, rfl⟩; rw [HQ.out])
  have e3 : (3 + (q : Int)) = ((q + 3 : Nat) : Int) := by omega
  refine bodyPost_ret (v := .agg #[.int .i64 1, .int .i64 (3 + q), .int .i64 8, .int .i64 1, .int .i64 0, .int .i64 1]) (by simp [results, Try.results14, go_sem]) rfl ⟨q + 3, by rw [e3], ⟨by omega, by omega, by have := HQ.out; omega⟩, by ((repeat' (first | (with_reducible exact Keeps.refl _) | (with_reducible assumption) | (with_reducible refine Keeps.drewN ?_ _) | (with_reducible refine Keeps.drew ?_) | (with_reducible refine Keeps.alloc ?_ _) | (with_reducible refine Keeps.setCell ?_ ?_ _) | (with_reducible refine Keeps.trans ?_ (After.keeps _)) | (with_reducible refine Keeps.trans ?_ (by with_reducible assumption)) | go_size)); (first | done | fail))⟩
theorem cmay {K : Nat} (h1 : 1 ≤ K) (h2 : K ≤ 4096) : mayB 1 K 8 1 0 1 = true := mayB_true.2 (by omega)
theorem cmade_c (K : Nat) (w : World) (h1 : 3 ≤ K) (h2 : K ≤ 10) :
    Calls Try.prog 15 #[cfgV 1 K 8 1 0 1] w fun e w' => ∃ m bb X P : Nat, e = .returned (.tuple #[.pointer (some ⟨m, 0, none⟩), .pointer (some ⟨X, 0, none⟩)]) ∧ Keeps w w' ∧ w.heap.size ≤ m ∧ w.heap.size ≤ bb ∧ w.heap.size ≤ X ∧ w.heap.size ≤ P ∧
      ChAt w' m bb (9 * K + 6) X P 6 K 1 8 1 0 1 (stFill 0 6 K (List.replicate (9 * K + 6) 0)) 0 := by
  have hm := cmay (K := K) (by omega) (by omega)
  have hl := (lenI_eq hm).1
  have HL : Hid (lenI 1 K 8 1 0 1 = ((9 * K + 6 : Nat) : Int)) := Lib.hid (by rw [hl]; omega)
  have HM := Lib.hid hm
  clear hm hl
  go_enter Try.func15, Try.ntmps15
  go_wp2_with (first
    | (go_at_call 25; refine (len_c _ _ _ _ _ _ _).mono ?_; rintro e w' ⟨rfl, hk1⟩; rw [HL.out]; have K0 : Keeps w _ := ((Keeps.refl w).alloc _).trans hk1; have HC := (Has.new w _ _).keeps hk1)
    | (go_at_call 24; refine (mnew (9 * K + 6) _ (by omega) (by omega)).mono ?_; rintro e w' ⟨m, b, rfl, hk, hm, hb, M⟩; have HC := HC.keeps hk; have hm := Nat.le_trans K0.size hm; have hb := Nat.le_trans K0.size hb; have K0 := K0.trans hk; have FX_ := (HC).facts; simp only [blockFacts, listFacts, cellsAt, Nat.reduceAdd, and_true, true_and, and_assoc] at FX_)
    | (go_at_call 26; refine (chainNew_c (lk := 6) M HM.out (by rw [HL.out]; exact Int.le_refl _) (by decide)).mono ?_; rintro e w' ⟨X, P, rfl, hk3, hX, hP, HX, HP⟩; have hX := Nat.le_trans K0.size hX; have hP := Nat.le_trans K0.size hP; have K0 := K0.trans hk3; have M := M.keeps hk3)
    | (go_at_call 59; refine (chainFill_c HX HP M (by omega) (by omega) (by omega) (by omega)).mono ?_; rintro e w' ⟨rfl, hu, M2⟩))
  go_ret2
  have nX : X ∉ [m, b] := by simp only [List.mem_cons, List.not_mem_nil, or_false, not_or]; exact ⟨HX.ne M.hg (by decide), HX.ne M.hb (by decide)⟩
  have nP : P ∉ [m, b] := by simp only [List.mem_cons, List.not_mem_nil, or_false, not_or]; exact ⟨HP.ne M.hg (by decide), HP.ne M.hb (by decide)⟩
  have ok : StOk 0 6 K (9 * K + 6) (List.replicate (9 * K + 6) 0) := ⟨by simp, by omega, by omega, by omega, by omega, fun v hv => by have := List.eq_of_mem_replicate hv; omega⟩
  exact ⟨m, b, X, P, rfl, K0.upd hu (ge_mb hm hb), hm, hb, hX, hP, ⟨HX.upd hu nX, HP.upd hu nP, ⟨_, M2⟩, (StRep.fill ok (.inl (by omega)) (by omega)).ok, HM.out, by decide, by decide⟩⟩
theorem stFill_len (hd lk n : Nat) (l : List Int) : (stFill hd lk n l).length = l.length := by simp [stFill, fillTo_length]
theorem first_list (K : Nat) (h : 3 ≤ K) (h2 : K ≤ 10) : listFrom 6 K (((stFill 0 6 K (List.replicate (9 * K + 6) 0)).set 6 (-1 + 1)).set 8 (0 + 1)) K 2 = [2, 0] := by
  obtain ⟨q, rfl⟩ : ∃ q, K = q + 3 := ⟨K - 3, by omega⟩
  have hl := stFill_len 0 6 (q + 3) (List.replicate (9 * (q + 3) + 6) 0)
  rw [List.length_replicate] at hl
  generalize stFill 0 6 (q + 3) (List.replicate (9 * (q + 3) + 6) 0) = l0 at *
  have e8 : (((l0.set 6 (-1 + 1)).set 8 (0 + 1)).getD (((6 : Nat) : Int) + 2).toNat 0) = 1 := getD_set_eq _ (by rw [List.length_set]; omega)
  have e6 : (((l0.set 6 (-1 + 1)).set 8 (0 + 1)).getD (((6 : Nat) : Int) + 0).toNat 0) = 0 := by
    rw [getD_set_ne _ (by decide)]
    exact getD_set_eq _ (by omega)
  have b1 : belowI ((q + 3 : Nat) : Int) 1 = 0 := by unfold belowI; rw [if_neg (by omega)]; rfl
  have b0 : belowI ((q + 3 : Nat) : Int) 0 = -1 := by unfold belowI; rw [if_neg (by omega)]; rfl
  rw [lf_cons (q + 2) (by decide), e8, b1, lf_cons (q + 1) (by decide), e6, b0, lf_neg _ (by decide)]
theorem chainFirst_c (w : World) : Calls Try.prog 13 #[] w fun e w' => e = .returned (.bool true) ∧ Keeps w w' := by
  have t1 : True := trivial
  have t2 : True := trivial
  go_enter Try.func13, Try.ntmps13
  go_wp2_with (first
    | (go_at_call 14; refine (csize_c _ _).mono ?_; rintro e w' ⟨K, rfl, ⟨k3, k10, -⟩, K0⟩)
    | (go_at_call 15; refine (cmade_c K _ k3 k10).mono ?_; rintro e w' ⟨m, bb, X, P, rfl, hk, hm, hb, hX, hP, H⟩; have k0s := K0.size; have K0 := K0.trans hk; have hm := Nat.le_trans k0s hm; have hb := Nat.le_trans k0s hb)
    | (go_at_call 17; have t_ := t1; clear t_ t1; refine (csets_c 0 (-1) 6 H (inB_yes (by omega) (by omega)) (.inl rfl) (by decide) (by decide)).mono ?_; rintro e w' ⟨rfl, hu, H⟩; have K0 := K0.upd hu (ge_mb hm hb))
    | (go_at_call 17; refine (csets_c 2 0 8 H (inB_yes (by omega) (by omega)) (.inr (inB_yes (by omega) (by omega))) (by decide) (by decide)).mono ?_; rintro e w' ⟨rfl, hu, H⟩; have K0 := K0.upd hu (ge_mb hm hb))
    | (go_at_call 18; refine (cwalks_c 2 H (inB_yes (by omega) (by omega)) (by omega) (by decide)).mono ?_; rintro e w' ⟨v, rfl, hu, H, R⟩; have HL2 := first_list K k3 k10; rw [HL2] at R H ⊢; have HL2 := Lib.hid HL2; have K0 := K0.upd hu (ge_mb hm hb))
    | (go_at_call 19; refine ((xlist_c 2 H.hX H.mem.choose_spec H.ok H.may H.hlk (inB_yes (by omega) (by omega)))).mono ?_; rintro e w' ⟨v5, rfl, hk5, R5⟩; rw [HL2.out] at R5; have H := H.keeps hk5; have R := R.keeps hk5; have K0 := K0.trans hk5)
    | (go_at_call 22; have t_ := t2; clear t_ t2; refine (sameInts_yes _ _ [2, 0] _ (R5.alloc _).reads (reads_two (Has.newAt (by simp)) _) (by simp)).mono ?_; rintro e w' ⟨rfl, hk6⟩; have R := (R.alloc _).keeps hk6; have K0 := (K0.alloc _).trans hk6)
    | (go_at_call 22; refine (sameInts_yes _ _ [2, 0] _ (R.alloc _).reads (reads_two (Has.newAt (by simp)) _) (by simp)).mono ?_; rintro e w' ⟨rfl, hk6⟩; have K0 := (K0.alloc _).trans hk6))
  go_ret
  exact ⟨rfl, K0⟩
end Go.Proofs.Ytcohhfndaogikaa
