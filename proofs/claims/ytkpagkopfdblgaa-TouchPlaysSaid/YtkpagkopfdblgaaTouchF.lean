/- The makers and the example of touches, walked. -/
import Derived.Test.YtkpagkopfdblgaaTouchD
namespace Go.Proofs.Ytkpagkopfdblgaa
set_option linter.unusedVariables false
set_option linter.unusedSimpArgs false
open Go Go.RowKit
set_option maxRecDepth 100000
set_option maxHeartbeats 1000000

theorem lenI_bd {p k d s c b : Int} (h : mayB p k d s c b = true) : lenI p k d s c b = 3 + p + 2 * s + k + k * d ∧ 15 ≤ lenI p k d s c b ∧ lenI p k d s c b ≤ 8388608 := by
  obtain ⟨⟨p1, p2⟩, ⟨k1, k2⟩, ⟨d1, d2⟩, d3, ⟨s1, s2⟩, c1, b1⟩ := mayB_true.1 h
  have hp := prod_bd k1 k2 d1 d2
  have e : lenI p k d s c b = 3 + p + 2 * s + k + k * d := by unfold lenI; rw [h]; rfl
  omega
theorem wordI_in {p k d s c b u i : Int} (h : mayB p k d s c b = true) (u0 : 0 ≤ u) (u1 : u < k) (i0 : 0 ≤ i) (i1 : i < d) :
    wordI p k d s c b u i = 3 + p + 2 * s + k + u * d + i ∧ 0 ≤ wordI p k d s c b u i ∧ wordI p k d s c b u i < lenI p k d s c b := by
  obtain ⟨⟨p1, p2⟩, ⟨k1, k2⟩, ⟨d1, d2⟩, d3, ⟨s1, s2⟩, c1, b1⟩ := mayB_true.1 h
  have e := (lenI_bd h).1
  have hw := word_bd u0 u1 (show 0 ≤ d by omega) i0 i1
  have e2 : wordI p k d s c b u i = 3 + p + 2 * s + k + u * d + i := by unfold wordI; rw [if_pos ⟨h, u0, u1, i0, i1⟩]
  omega
theorem wordI_no {p k d s c b u i : Int} (h : u < 0 ∨ k ≤ u ∨ i < 0 ∨ d ≤ i) : wordI p k d s c b u i = -1 := by
  unfold wordI
  rw [if_neg]
  rintro ⟨_, h1, h2, h3, h4⟩
  omega
theorem touchMade_c (p k d s c b : Int) (w : World) (hm : mayB p k d s c b = true) :
    Calls Try.prog 55 #[cfgV p k d s c b] w fun e w' => ∃ m bb W : Nat, e = .returned (.tuple #[.pointer (some ⟨m, 0, none⟩), .pointer (some ⟨W, 0, none⟩)]) ∧ Keeps w w' ∧ w.heap.size ≤ m ∧ w.heap.size ≤ bb ∧ w.heap.size ≤ W ∧
      Mem w' m bb (lenI p k d s c b).toNat (List.replicate (lenI p k d s c b).toNat 0) 0 ⟨0, 0, 0, 0, false⟩ ∧ Has w' W (wordsOf m p k d s c b) 155 := by
  obtain ⟨hl, l1, l2⟩ := lenI_bd hm
  obtain ⟨q, hq⟩ : ∃ q, lenI p k d s c b = q := ⟨_, rfl⟩
  have HQ := Lib.hid hq
  rw [hq] at l1 l2
  rw [hq]
  have HM := Lib.hid hm
  have HL : Hid (lenI p k d s c b ≤ ((q.toNat : Nat) : Int)) := Lib.hid (by omega)
  clear hm hq hl
  have K0 := (Keeps.refl w).alloc (.cells (cfgA p k d s c b) 84)
  have HC := Has.new w (cfgA p k d s c b) 84
  have FX_ := (HC).facts; simp only [blockFacts, listFacts, cellsAt, Nat.reduceAdd, and_true, true_and, and_assoc] at FX_
  go_enter Try.func55, Try.ntmps55
  go_wp2_with (first
    | (go_at_call 56; refine (len_c _ _ _ _ _ _ _).mono ?_; rintro e w' ⟨rfl, hk⟩; rw [HQ.out]; have K0 := K0.trans hk; have HC := HC.keeps hk; have FX_ := (HC).facts; simp only [blockFacts, listFacts, cellsAt, Nat.reduceAdd, and_true, true_and, and_assoc] at FX_)
    | (go_at_call 31; refine (mnew_int _ _ (by omega) (by omega)).mono ?_; rintro e w' ⟨m, bb, rfl, hk, hm, hb, M⟩; have k1 := K0.size; have K0 := K0.trans hk; have HC := HC.keeps hk; have FX_ := (HC).facts; simp only [blockFacts, listFacts, cellsAt, Nat.reduceAdd, and_true, true_and, and_assoc] at FX_)
    | (go_at_call 57; refine (touchNew_c M HM.out HL.out).mono ?_; rintro e w' ⟨W, rfl, hk2, hW, HW⟩))
  go_ret2
  have k2 := hk.size
  exact ⟨m, bb, W, rfl, K0.trans hk2, by omega, by omega, by omega, M.keeps hk2, HW⟩
theorem touchFirst_c (w : World) : Calls Try.prog 53 #[] w fun e w' => e = .returned (.bool true) ∧ Keeps w w' := by
  have hm : Hid (mayB 1 1 8 1 0 1 = true) := Lib.hid (by decide)
  obtain ⟨q, hq⟩ : ∃ q, (lenI 1 1 8 1 0 1).toNat = q := ⟨_, rfl⟩
  have HW1 : Hid (wordI 1 1 8 1 0 1 0 3 = ((10 : Nat) : Int)) := Lib.hid (by decide)
  have hq15 : q = 15 := by rw [← hq]; decide
  have HQ := Lib.hid hq
  have HL0 : Hid ((List.replicate q (0 : Int))[10]? = some 0) := Lib.hid (by subst hq15; rfl)
  have HL1 : Hid ((tMem 8 (List.replicate q (0 : Int)) 10 0 5 0)[10]? = some 5) := Lib.hid (by subst hq15; decide)
  have HT : Hid (tN 8 0 5 = 0 ∧ tV 8 0 = 0 ∧ tN 8 5 5 = 0 ∧ tV 8 5 = 5) := Lib.hid (by decide)
  clear hq hq15
  have t0 : True := trivial
  have t1 : True := trivial
  go_enter Try.func53, Try.ntmps53
  go_wp2_with (first
    | (go_at_call 55; refine (touchMade_c _ _ _ _ _ _ _ hm.out).mono ?_; rintro e w' ⟨m, bb, W, rfl, K0, hmm, hbb, hWW, M, HW⟩; rw [HQ.out] at M)
    | (go_at_call 59; have t_ := t0; clear t_ t0; refine (tdoes_c (i := 10) _ _ HW M (by simp) HW1.out HL0.out (by omega)).mono ?_; rintro e w' ⟨rfl, hu, HW, x1, M, hx⟩; have K0 := K0.upd hu (by simp; exact ⟨hmm, hbb⟩); rw [HT.out.1, HT.out.2.1]; have k0 := K0.size; have ltm := M.lt)
    | (go_at_call 59; have t_ := t1; clear t_ t1; refine (tdoes_c (i := 10) _ _ (HW.keeps (by ((repeat' (first | (with_reducible exact Keeps.refl _) | (with_reducible assumption) | (with_reducible refine Keeps.drewN ?_ _) | (with_reducible refine Keeps.drew ?_) | (with_reducible refine Keeps.alloc ?_ _) | (with_reducible refine Keeps.setCell ?_ ?_ _) | (with_reducible refine Keeps.trans ?_ (After.keeps _)) | (with_reducible refine Keeps.trans ?_ (by with_reducible assumption)) | go_size)); (first | done | fail)))) (M.keeps (by ((repeat' (first | (with_reducible exact Keeps.refl _) | (with_reducible assumption) | (with_reducible refine Keeps.drewN ?_ _) | (with_reducible refine Keeps.drew ?_) | (with_reducible refine Keeps.alloc ?_ _) | (with_reducible refine Keeps.setCell ?_ ?_ _) | (with_reducible refine Keeps.trans ?_ (After.keeps _)) | (with_reducible refine Keeps.trans ?_ (by with_reducible assumption)) | go_size)); (first | done | fail)))) (by simp) HW1.out HL1.out (by omega)).mono ?_; rintro e w' ⟨rfl, hu2, HW, x2, M, hx2⟩; rw [HT.out.2.2.1, HT.out.2.2.2]; have HA := Has.upd (Has.new _ #[.int .i64 0, .int .i64 0, .int .i64 0, .int .i64 0, .int .i64 0, .int .i64 0, .int .i64 0, .int .u64 0] 101) hu2 (by simp only [List.mem_cons, List.not_mem_nil, or_false, not_or]; omega); have FX_ := (HA).facts; simp only [blockFacts, listFacts, cellsAt, Nat.reduceAdd, and_true, true_and, and_assoc] at FX_))
  go_ret
  exact ⟨rfl, ((K0.alloc _).upd hu2 (by simp; exact ⟨hmm, hbb⟩)).alloc _⟩
end Go.Proofs.Ytkpagkopfdblgaa
