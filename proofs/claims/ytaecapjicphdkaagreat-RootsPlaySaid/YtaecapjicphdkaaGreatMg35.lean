/- Fill, the law's maker of memories (layer 11), walked. -/
import Derived.Test.YtaecapjicphdkaaGreatMg34
import Derived.Test.YtaecapjicphdkaaGreatMg15
import Derived.Deep.RegionHeld3
import Derived.Deep.RegionLaw
import Derived.LoopTactic
import Derived.Deep.DeepCutAuto
import Derived.Deep.QuietTactic
import Derived.BigQuiet
import Derived.Test.YtaecapjicphdkaaGreatMg28
namespace Go.Proofs.YtaecapjicphdkaaGreat
set_option linter.unusedVariables false
set_option linter.unusedSimpArgs false
open Go Go.RowKit
set_option maxRecDepth 100000
set_option maxHeartbeats 4000000

section
variable {w : World} {R S m bb N : Nat} {l : List Int} {cc : Int} {x : Acc} {p k d c b : Int} {hd lk n ra : Nat}
theorem rsFill_c (hR : Has w R (rootsOf m p k d (n : Int) c b S) 109) (hS : Has w S (stackOf m hd lk n) 143) (M : Mem w m bb N l cc x) (h1 : 1 ≤ n) (h2 : n ≤ 4096) (h3 : lk + n ≤ N) (h4 : hd < N)
    (hq : ∀ i : Nat, i < n → crootI p k d (n : Int) c b i = ((ra + i : Nat) : Int)) (h0 : ∀ i : Nat, i < n → (stFill hd lk n l)[ra + i]? = some 0) :
    Calls Tryz.prog 48 #[.pointer (some ⟨R, 0, none⟩)] w fun e w' => e = .returned (.tuple #[]) ∧ Upd [m, bb] w w' ∧ Mem w' m bb N (stFill hd lk n l) cc x := by
  obtain ⟨L, hL⟩ : ∃ L, stFill hd lk n l = L := ⟨_, rfl⟩
  rw [hL] at h0 ⊢
  have HLL := Lib.hid hL
  clear hL
  have HQ := Lib.hid hq
  have H0 := Lib.hid h0
  clear hq h0
  have nRS : R ∉ [m, bb] := by simp only [List.mem_cons, List.not_mem_nil, or_false, not_or]; exact ⟨Has.ne hR M.hg (by decide), Has.ne hR M.hb (by decide)⟩
  have FX_ := (hR).facts; simp only [blockFacts, listFacts, cellsAt, Nat.reduceAdd, and_true, true_and, and_assoc, rootsOf] at FX_
  go_enter Tryz.func48, Tryz.ntmps48
  go_upto_region 1 with (go_at_call 87; refine (fill_c hS M h1 h2 h3 h4).mono ?_; rintro e w' ⟨rfl, hu, M⟩; rw [HLL.out] at M; have hR := hR.upd hu nRS)
  clear FX_
  have FX_ := (hR).facts; simp only [blockFacts, listFacts, cellsAt, Nat.reduceAdd, and_true, true_and, and_assoc, rootsOf] at FX_
  go_wp2
  go_loopw [13] (fun i wr => ∃ q : Nat, q ≤ n ∧ i = .int .i64 q ∧ Mem wr m bb N L cc x ∧ Has wr R (rootsOf m p k d (n : Int) c b S) 109 ∧ Upd [m, bb] w wr) (fun i _ => n - (intOf i).toNat)
  case atStart => exact ⟨0, by omega, rfl, M, hR, hu⟩
  case round =>
    clear FX_
    obtain ⟨q, hqn, rfl, M, hR, hu⟩ := hrel
    by_cases hlt : q < n
    · go_upto_region 4 with fail
      have HK := Keeps.refl wr
      have HQq := Lib.hid (HQ.out q hlt)
      have H0q := Lib.hid (H0.out q hlt)
      go_region_held3 (fun u => ((((((u.cell? ⟨R, 0, none⟩ = some (.pointer (some ⟨m, 0, none⟩)) ∧ u.cell? ⟨R, 1, none⟩ = some (.int .i64 p)) ∧ u.cell? ⟨R, 2, none⟩ = some (.int .i64 k)) ∧ u.cell? ⟨R, 3, none⟩ = some (.int .i64 d)) ∧ u.cell? ⟨R, 4, none⟩ = some (.int .i64 n)) ∧ u.cell? ⟨R, 5, none⟩ = some (.int .i64 c)) ∧ u.cell? ⟨R, 6, none⟩ = some (.int .i64 b))) (((repeat' (with_reducible apply And.intro)) <;> (apply Has.cellv; (focus ((repeat (first | (with_reducible assumption) | (with_reducible exact Has.new _ _ _) | (with_reducible exact Has.new1 _ _ _ _) | (with_reducible exact Has.new2 _ _ _ _ _) | (with_reducible refine Has.newAt ?_; (simp; done)) | (with_reducible apply Has.set) | (with_reducible apply Has.far; (case hn => first | assumption | (simp; done) | (intro e_; simp at e_; omega))) | (with_reducible apply Has.alloc) | (with_reducible apply Has.drewN) | (with_reducible apply Has.drew) | (with_reducible refine Has.keeps ?_ (by with_reducible assumption)))))); (first | (with_reducible assumption) | rfl | (simp; done) | fail))))
        (first
          | (go_at_call 47; refine (lcroot_c _ _ _ _ _ _ _ _).mono ?_; rintro e w' ⟨rfl, hk5⟩; rw [HQq.out]; have hR := (hR.keeps (by ((repeat' (first | (with_reducible exact Keeps.refl _) | (with_reducible assumption) | (with_reducible refine Keeps.drewN ?_ _) | (with_reducible refine Keeps.drew ?_) | (with_reducible refine Keeps.alloc ?_ _) | (with_reducible refine Keeps.setCell ?_ ?_ _) | (with_reducible refine Keeps.trans ?_ (After.keeps _)) | (with_reducible refine Keeps.trans ?_ (by with_reducible assumption)) | go_size)); (first | done | fail)))).keeps hk5; have HK := (HK.drew).trans hk5)
          | (go_at_call 88; refine (mlay_in (M.keeps HK) (ra + q) 0 H0q.out).mono ?_; rintro e w' ⟨rfl, hu2, M2⟩; have hR := hR.upd hu2 nRS))
      rw [set_same H0q.out] at M2
      have hu := (hu.trans (Upd.of_keeps HK)).trans hu2
      go_wp2
      go_roundw
      case rel => exact ⟨q + 1, by omega, by go_num, M2, hR, hu⟩
      case measure => simp [intOf]; omega
    · obtain rfl : q = n := by omega
      go_wp2
      go_end0
      exact ⟨rfl, by (repeat (first | (with_reducible exact Upd.refl _ _) | (with_reducible assumption) | (with_reducible refine Upd.setCell ?_ (by first | (left; simp; done) | (right; go_size)) _) | (with_reducible refine Upd.alloc ?_ _) | (with_reducible refine Upd.drewN ?_ _) | (with_reducible refine Upd.drew ?_))), by assumption⟩
end
/-- A memory of slots as the chapter fills it: p 1, k 1, d 8, s n. -/
def rtL (n : Nat) : List Int := stFill 1 (4 + n) n (List.replicate (13 + 2 * n) 0)
theorem rtL_len (n : Nat) : (rtL n).length = 13 + 2 * n := by simp [rtL, stFill, fillTo_length]
theorem fillTo_outR (l : List Int) (lk j : Nat) : ∀ k : Nat, (j < lk ∨ lk + k ≤ j) → (fillTo l lk k)[j]? = l[j]?
  | 0, _ => rfl
  | k + 1, h => by
    show ((fillTo l lk k).set (lk + k) ((k : Int) + 2))[j]? = _
    rw [List.getElem?_set_ne (by omega)]
    exact fillTo_outR l lk j k (by omega)
theorem stFill_outR (hd lk n j : Nat) (l : List Int) (h1 : j ≠ hd) (h2 : j < lk ∨ lk + n ≤ j) (hn : 1 ≤ n) : (stFill hd lk n l)[j]? = l[j]? := by
  unfold stFill
  rw [List.getElem?_set_ne (by omega), List.getElem?_set_ne (by omega)]
  exact fillTo_outR l lk j n h2
theorem rtL_doc (n : Nat) : ((stFill 1 (4 + n) n (stFill 0 (4 + n + n) 1 (List.replicate (13 + 2 * n) 0))).set (4 + n + n) 0).set 0 0 = rtL n := by
  have e1 : stFill 0 (4 + n + n) 1 (List.replicate (13 + 2 * n) (0 : Int)) = (List.replicate (13 + 2 * n) (0 : Int)).set 0 1 := by
    show (((List.replicate (13 + 2 * n) (0 : Int)).set (4 + n + n + 0) _).set (4 + n + n + 1 - 1) 0).set 0 1 = _
    rw [Nat.add_zero, Nat.add_sub_cancel, List.set_set, set_same (List.getElem?_replicate_of_lt (by omega))]
  have e2 : ∀ k : Nat, fillTo ((List.replicate (13 + 2 * n) (0 : Int)).set 0 1) (4 + n) k = (fillTo (List.replicate (13 + 2 * n) (0 : Int)) (4 + n) k).set 0 1 := by
    intro k
    induction k with
    | zero => rfl
    | succ k ih =>
      show (fillTo _ (4 + n) k).set (4 + n + k) _ = ((fillTo _ (4 + n) k).set (4 + n + k) _).set 0 1
      rw [ih, List.set_comm _ _ (by omega)]
  have e3 : stFill 1 (4 + n) n ((List.replicate (13 + 2 * n) (0 : Int)).set 0 1) = (rtL n).set 0 1 := by
    unfold rtL stFill
    rw [e2, List.set_comm _ _ (show (0 : Nat) ≠ 4 + n + n - 1 by omega), List.set_comm _ _ (show (0 : Nat) ≠ 1 by omega)]
  rw [e1, e3, List.set_comm _ _ (show (0 : Nat) ≠ 4 + n + n by omega), List.set_set]
  have z : ∀ j : Nat, j ≠ 1 → (j < 4 + n ∨ 4 + n + n ≤ j) → j < 13 + 2 * n → (rtL n)[j]? = some 0 := fun j h1 h2 h3 => by
    unfold rtL
    rcases Nat.eq_zero_or_pos n with hn | hn
    · subst hn
      unfold stFill
      rw [List.getElem?_set_ne (by omega)]
      by_cases hj : 4 + 0 + 0 - 1 = j
      · subst hj; rw [List.getElem?_set_self (by simp [fillTo])]
      · rw [List.getElem?_set_ne hj]; exact List.getElem?_replicate_of_lt h3
    · rw [stFill_outR _ _ _ _ _ h1 h2 hn, List.getElem?_replicate_of_lt h3]
  rw [set_same (z (4 + n + n) (by omega) (by omega) (by omega)), set_same (z 0 (by omega) (by omega) (by omega))]
theorem mayB_rt {n : Nat} (h1 : 1 ≤ n) (h2 : n ≤ 4) : mayB 1 1 8 n 0 1 = true := by
  rw [mayB_true]; omega
theorem lenI_rt {n : Nat} (h1 : 1 ≤ n) (h2 : n ≤ 4) : lenI 1 1 8 n 0 1 = ((13 + 2 * n : Nat) : Int) := by
  unfold lenI; rw [if_pos (mayB_rt h1 h2)]; omega
theorem madeR_c (n : Nat) (w : World) (h1 : 1 ≤ n) (h2 : n ≤ 4) :
    Calls Tryz.prog 17 #[cfgV 1 1 8 n 0 1] w fun e w' => ∃ m bb R S W g gb Pl Sp E : Nat, e = .returned (.tuple #[.pointer (some ⟨m, 0, none⟩), .pointer (some ⟨R, 0, none⟩), .pointer (some ⟨W, 0, none⟩)]) ∧ Keeps w w' ∧
      (w.heap.size ≤ m ∧ w.heap.size ≤ bb ∧ w.heap.size ≤ R ∧ w.heap.size ≤ S ∧ w.heap.size ≤ W ∧ w.heap.size ≤ g ∧ w.heap.size ≤ gb ∧ w.heap.size ≤ Sp) ∧ bb ≠ gb ∧
      Mem w' m bb (13 + 2 * n) (rtL n) 0 ⟨0, 0, 0, 0, false⟩ ∧ Has w' R (rootsOf m 1 1 8 n 0 1 S) 109 ∧ Has w' S (stackOf m (1 : Nat) ((4 + n : Nat) : Int) n) 143 ∧
      Has w' W (rwOf 1 1 8 n 0 1 g (pto Pl) (pto Sp) (pto E)) 85 ∧ Has w' Sp (rstackOf g (1 : Nat) (4 + n : Nat) n) 136 ∧ RMem w' g gb (13 + 2 * n) (rtL n) 0 := by
  have HM := Lib.hid (mayB_rt h1 h2)
  obtain ⟨N, hN⟩ : ∃ N : Nat, 13 + 2 * n = N := ⟨_, rfl⟩
  have hlen := lenI_rt h1 h2
  rw [hN] at hlen ⊢
  have HL := Lib.hid hlen
  have HN := Lib.hid hN
  have bN1 : 15 ≤ N := by omega
  have bN2 : N ≤ 21 := by omega
  have HLe : Hid (lenI 1 1 8 n 0 1 ≤ (N : Int)) := Lib.hid (by omega)
  have hsz : (w.alloc (.cells (cfgA 1 1 8 n 0 1) 24)).heap.size = w.heap.size + 1 := World.size_alloc _ _
  clear hlen hN
  have K0 := (Keeps.refl w).alloc (.cells (cfgA 1 1 8 n 0 1) 24)
  have HC := Has.new w (cfgA 1 1 8 n 0 1) 24
  have FX_ := (HC).facts; simp only [blockFacts, listFacts, cellsAt, Nat.reduceAdd, and_true, true_and, and_assoc] at FX_
  go_enter Tryz.func17, Tryz.ntmps17
  go_wp2_with (first
    | (go_at_call 8; refine (len_c _ _ _ _ _ _ _).mono ?_; rintro e w' ⟨rfl, hk⟩; rw [HL.out]; have K0 := K0.trans hk; have HC := HC.keeps hk; have FX_ := (HC).facts; simp only [blockFacts, listFacts, cellsAt, Nat.reduceAdd, and_true, true_and, and_assoc] at FX_)
    | (go_at_call 9; refine (mnew _ _ (by omega) (by omega)).mono ?_; rintro e w' ⟨m, bb, rfl, hk, hm, hb, M⟩; have k1 := K0.size; have K0 := K0.trans hk; have HC := HC.keeps hk; have FX_ := (HC).facts; simp only [blockFacts, listFacts, cellsAt, Nat.reduceAdd, and_true, true_and, and_assoc] at FX_)
    | (go_at_call 11; refine (rootsNew_c M HM.out HLe.out).mono ?_; rintro e w' ⟨R, S, rfl, hk, hR, hS, HR, HS⟩; have k2 := K0.size; have K0 := K0.trans hk; have M := M.keeps hk; have HC := HC.keeps hk; have FX_ := (HC).facts; simp only [blockFacts, listFacts, cellsAt, Nat.reduceAdd, and_true, true_and, and_assoc] at FX_))
  obtain ⟨m1, m2⟩ : w.heap.size ≤ m ∧ w.heap.size ≤ bb := by omega
  obtain ⟨r1, r2⟩ : w.heap.size ≤ R ∧ w.heap.size ≤ S := by omega
  clear hsz k1 k2 FX_
  have HS : Has w' S (stackOf m (1 : Nat) ((4 + n : Nat) : Int) n) 143 := HS.congr (by unfold stackOf; congr 5)
  have hT : stFill 1 (4 + n) n (List.replicate N 0) = rtL n := by rw [← HN.out]; rfl
  have hz : ∀ i : Nat, i < n → (stFill 1 (4 + n) n (List.replicate N 0))[4 + i]? = some 0 := fun i hi => by
    rw [stFill_outR 1 (4 + n) n (4 + i) _ (by omega) (by omega) h1, List.getElem?_replicate_of_lt (by omega)]
  have CF := Lib.hid (rsFill_c (ra := 4) HR HS M h1 (by omega) (by omega) (by omega) (fun i hi => by unfold crootI; rw [atI_t HM.out (by omega) (by omega)]; omega) hz)
  rw [hT] at CF
  have HT := Lib.hid hT
  clear hT hz
  have nRS : R ∉ [m, bb] := by simp only [List.mem_cons, List.not_mem_nil, or_false, not_or]; exact ⟨Has.ne HR M.hg (by decide), Has.ne HR M.hb (by decide)⟩
  have nSS : S ∉ [m, bb] := by simp only [List.mem_cons, List.not_mem_nil, or_false, not_or]; exact ⟨Has.ne HS M.hg (by decide), Has.ne HS M.hb (by decide)⟩
  have nCS : w.heap.size ∉ [m, bb] := by simp only [List.mem_cons, List.not_mem_nil, or_false, not_or]; exact ⟨Has.ne HC M.hg (by decide), Has.ne HC M.hb (by decide)⟩
  go_upto_region 8 with (go_at_call 48; refine CF.out.mono ?_; rintro e w2 ⟨rfl, hu, M⟩; have HR := HR.upd hu nRS; have HS := HS.upd hu nSS; have HC := HC.upd hu nCS; have K0 := K0.upd hu (by simp; omega))
  clear CF
  have hNi : (N : Int) = 13 + 2 * n := by have := HN.out; omega
  have CN := Lib.hid (r11New_c (w := w2) (N := N) (lk := 4 + n + n) (ls := 4 + n) (K := 1) (s := n) HM.out HL.out (by omega) (by omega))
  have k3 := K0.size
  have FX_ := (HC).facts; simp only [blockFacts, listFacts, cellsAt, Nat.reduceAdd, and_true, true_and, and_assoc] at FX_
  go_upto_region 9 with (go_at_call 49; refine CN.out.mono ?_; rintro e w3 ⟨W, g, gb, Pl, Sp, E, rfl, hk, ⟨hW, hg, hgb, hPl, hSp⟩, hps, HW, HPl, HSp, RM⟩)
  clear CN FX_
  have HR := HR.keeps hk
  have HS := HS.keeps hk
  have HC := HC.keeps hk
  have ltb := M.lt.2
  have ngb : bb ≠ gb := by omega
  have M := M.keeps hk
  have K0 := K0.trans hk
  have hD : Hid (((stFill 1 (4 + n) n (stFill 0 (4 + n + n) 1 (List.replicate N 0))).set (4 + n + n) 0).set 0 0 = rtL n) := Lib.hid (by rw [← HN.out]; exact rtL_doc n)
  generalize stFill 1 (4 + n) n (stFill 0 (4 + n + n) 1 (List.replicate N 0)) = L1 at *
  have HLk : Hid (clinkI 1 1 8 n 0 1 0 = ((4 + n + n : Nat) : Int)) := Lib.hid (by unfold clinkI; rw [atI_t HM.out (by omega) (by omega)]; omega)
  have RM0 := RM
  obtain ⟨lk, hlk⟩ : ∃ lk : Nat, lk = 4 + n + n := ⟨_, rfl⟩
  rw [← hlk] at HLk hD
  have hlkN : lk < N := by omega
  have hL1 := Lib.hid RM.len
  have HLKe := Lib.hid hlk
  clear hlk
  have hlk1 : (0 : Int) ≤ (lk : Int) := by omega
  have hlk2 : (lk : Int) < (N : Int) := by omega
  have hlk3 : ((lk : Int)).toNat = lk := by omega
  have nbW := (Has.ne HW RM.hb (by decide)).symm
  have nbC := (Has.ne HC RM.hb (by decide)).symm
  have nbW' := nbW.symm
  have nbC' := nbC.symm
  have nbg := RM.ne.symm
  have nbg' := RM.ne
  have FX_ := (HC).facts; simp only [blockFacts, listFacts, cellsAt, Nat.reduceAdd, and_true, true_and, and_assoc] at FX_
  go_wp2
  go_loopw [10] (fun i wr => ∃ q : Nat, q ≤ 1 ∧ i = .int .i64 q ∧ RMem wr g gb N (if q = 0 then L1 else L1.set lk 0) 0 ∧ Upd [gb] w3 wr) (fun i _ => 1 - (intOf i).toNat)
  case atStart => exact ⟨0, by omega, rfl, RM, Upd.refl _ _⟩
  case round =>
    clear FX_
    obtain ⟨q, hq, rfl, RM, hU⟩ := hrel
    have HW := HW.upd hU (by simpa using nbW')
    have HC := HC.upd hU (by simpa using nbC')
    obtain rfl | rfl : q = 0 ∨ q = 1 := by omega
    · rw [if_pos rfl] at RM
      have FX_ := (HC).facts; simp only [blockFacts, listFacts, cellsAt, Nat.reduceAdd, and_true, true_and, and_assoc] at FX_
      go_upto_region 12 with fail
      clear FX_
      have HK := Keeps.refl wr
      have HG := RM.hg
      have HB := RM.hb
      have bfz := HB.frozen
      have bl0 : ∃ o, (u64s L1)[lk]? = some o := ⟨_, u64s_at (getD_some (by have := hL1.out; omega))⟩
      obtain ⟨o1, ho1⟩ := bl0
      have bc := HB.cellv ho1
      have X0 : wr.drew.cell? ⟨w.heap.size, 0, none⟩ = some (.int .i64 1) := HC.drew.cell 0
      have X1 : wr.drew.cell? ⟨w.heap.size, 1, none⟩ = some (.int .i64 1) := HC.drew.cell 1
      have X2 : wr.drew.cell? ⟨w.heap.size, 2, none⟩ = some (.int .i64 8) := HC.drew.cell 2
      have X3 : wr.drew.cell? ⟨w.heap.size, 3, none⟩ = some (.int .i64 n) := HC.drew.cell 3
      have X4 : wr.drew.cell? ⟨w.heap.size, 4, none⟩ = some (.int .i64 0) := HC.drew.cell 4
      have X5 : wr.drew.cell? ⟨w.heap.size, 5, none⟩ = some (.int .i64 1) := HC.drew.cell 5
      have X6 : wr.drew.cell? ⟨W, 6, none⟩ = some (.pointer (some ⟨g, 0, none⟩)) := HW.drew.cell 6
      have X7 : wr.drew.cell? ⟨g, 0, none⟩ = some (.slice (some ⟨gb, 0, none⟩) N N) := HG.drew.cell 0
      go_region_with ((go_at_call 50; refine (rclink_c _ _ _ _ _ _ _ _).mono ?_; rintro e w' ⟨rfl, hk5⟩; rw [HLk.out]; have HC := (HC.keeps (by ((repeat' (first | (with_reducible exact Keeps.refl _) | (with_reducible assumption) | (with_reducible refine Keeps.drewN ?_ _) | (with_reducible refine Keeps.drew ?_) | (with_reducible refine Keeps.alloc ?_ _) | (with_reducible refine Keeps.setCell ?_ ?_ _) | (with_reducible refine Keeps.trans ?_ (After.keeps _)) | (with_reducible refine Keeps.trans ?_ (by with_reducible assumption)) | go_size)); (first | done | fail)))).keeps hk5; have HW := (HW.keeps (by ((repeat' (first | (with_reducible exact Keeps.refl _) | (with_reducible assumption) | (with_reducible refine Keeps.drewN ?_ _) | (with_reducible refine Keeps.drew ?_) | (with_reducible refine Keeps.alloc ?_ _) | (with_reducible refine Keeps.setCell ?_ ?_ _) | (with_reducible refine Keeps.trans ?_ (After.keeps _)) | (with_reducible refine Keeps.trans ?_ (by with_reducible assumption)) | go_size)); (first | done | fail)))).keeps hk5; have HG := (HG.keeps (by ((repeat' (first | (with_reducible exact Keeps.refl _) | (with_reducible assumption) | (with_reducible refine Keeps.drewN ?_ _) | (with_reducible refine Keeps.drew ?_) | (with_reducible refine Keeps.alloc ?_ _) | (with_reducible refine Keeps.setCell ?_ ?_ _) | (with_reducible refine Keeps.trans ?_ (After.keeps _)) | (with_reducible refine Keeps.trans ?_ (by with_reducible assumption)) | go_size)); (first | done | fail)))).keeps hk5; have HB := (HB.keeps (by ((repeat' (first | (with_reducible exact Keeps.refl _) | (with_reducible assumption) | (with_reducible refine Keeps.drewN ?_ _) | (with_reducible refine Keeps.drew ?_) | (with_reducible refine Keeps.alloc ?_ _) | (with_reducible refine Keeps.setCell ?_ ?_ _) | (with_reducible refine Keeps.trans ?_ (After.keeps _)) | (with_reducible refine Keeps.trans ?_ (by with_reducible assumption)) | go_size)); (first | done | fail)))).keeps hk5; have bfz := HB.frozen; have bc := HB.cellv ho1; have HK := (HK.drew).trans hk5; have X6 : w'.cell? ⟨W, 6, none⟩ = some (.pointer (some ⟨g, 0, none⟩)) := HW.cell 6; have X7 : w'.cell? ⟨g, 0, none⟩ = some (.slice (some ⟨gb, 0, none⟩) N N) := HG.cell 0))
      all_goals (have M3 : RMem (w'.setCell ⟨gb, lk, none⟩ (.int .u64 0)) g gb N (L1.set lk 0) 0 := ⟨HG.far nbg' _, (HB.set lk (.int .u64 0)).congr (u64s_set _ _ _), by rw [List.length_set]; exact hL1.out, RM.small, RM.c0, RM.c1⟩)
      all_goals go_wp2
      all_goals go_roundw
      all_goals (try (case rel => exact ⟨1, by omega, by go_num, by simpa using M3, (hU.trans (Upd.of_keeps HK)).trans (by (repeat (first | (with_reducible exact Upd.refl _ _) | (with_reducible assumption) | (with_reducible refine Upd.setCell ?_ (by first | (left; simp; done) | (right; go_size)) _) | (with_reducible refine Upd.alloc ?_ _) | (with_reducible refine Upd.drewN ?_ _) | (with_reducible refine Upd.drew ?_))))⟩))
      all_goals (try (case measure => simp [intOf]))
    · rw [if_neg (by omega)] at RM
      have K0 := K0.upd hU (by simp; omega)
      have HR := HR.upd hU (by simpa using Has.ne HR RM0.hb (by decide))
      have HS := HS.upd hU (by simpa using Has.ne HS RM0.hb (by decide))
      have HSp := HSp.upd hU (by simpa using Has.ne HSp RM0.hb (by decide))
      have M := M.upd hU (by simpa using Has.ne M.hg RM0.hb (by decide)) (by simpa using ngb)
      have HG := RM.hg
      have HB := RM.hb
      obtain ⟨o2, ho2⟩ : ∃ o, (u64s (L1.set lk 0))[0]? = some o := ⟨_, u64s_at (getD_some (by have := hL1.out; rw [List.length_set]; omega))⟩
      have bc := HB.cellv ho2
      have bfz := HB.frozen
      have M4 : RMem (wr.setCell ⟨gb, 0, none⟩ (.int .u64 0)) g gb N ((L1.set lk 0).set 0 0) 0 := ⟨HG.far nbg' _, (HB.set 0 (.int .u64 0)).congr (u64s_set _ _ _), by rw [List.length_set, List.length_set]; exact hL1.out, RM.small, RM.c0, RM.c1⟩
      rw [hD.out] at M4
      have FX_ := (HC).facts; simp only [blockFacts, listFacts, cellsAt, Nat.reduceAdd, and_true, true_and, and_assoc] at FX_
      have FC_ := FX_
      have FX_ := (HW).facts; simp only [blockFacts, listFacts, cellsAt, Nat.reduceAdd, and_true, true_and, and_assoc, rwOf] at FX_
      have FW_ := FX_
      have FX_ := (HG).facts; simp only [blockFacts, listFacts, cellsAt, Nat.reduceAdd, and_true, true_and, and_assoc] at FX_
      go_wp2
      refine bodyPost_ret (v := .tuple #[.pointer (some ⟨m, 0, none⟩), .pointer (some ⟨R, 0, none⟩), .pointer (some ⟨W, 0, none⟩)]) (by simp [results, Tryz.results17, go_sem]) rfl ?_
      exact ⟨m, bb, R, S, W, g, gb, Pl, Sp, E, rfl, K0.setCell (show w.heap.size ≤ gb by omega) _, ⟨m1, m2, r1, r2, by omega, by omega, by omega, by omega⟩, ngb, M.upd (S := [gb]) (by (repeat (first | (with_reducible exact Upd.refl _ _) | (with_reducible assumption) | (with_reducible refine Upd.setCell ?_ (by first | (left; simp; done) | (right; go_size)) _) | (with_reducible refine Upd.alloc ?_ _) | (with_reducible refine Upd.drewN ?_ _) | (with_reducible refine Upd.drew ?_)))) (by simpa using Has.ne M.hg HB (by decide)) (by simpa using ngb), HR.far (Has.ne HR HB (by decide)) _, HS.far (Has.ne HS HB (by decide)) _, HW.far nbW' _, HSp.far (Has.ne HSp HB (by decide)) _, M4⟩
end Go.Proofs.YtaecapjicphdkaaGreat

/- The chapter's example (layer 11), walked. -/
namespace Go.Proofs.YtaecapjicphdkaaGreat
set_option linter.unusedVariables false
set_option linter.unusedSimpArgs false
open Go Go.RowKit
set_option maxRecDepth 100000
set_option maxHeartbeats 2000000

section
variable {w : World} {R m bb S N B A0 : Nat} {l : List Int} {cc : Int} {x : Acc} {p k d sn cz b : Int} {y pg hd lk n ra : Nat} {cls : Int} {v : Value} {s : Cr}
/-- A Create that was begun in memory l, behind j accesses. -/
structure CrAt (w : World) (y pg R S m bb N : Nat) (cls : Int) (hd lk n ra : Nat) (l : List Int) (cc : Int) (A0 j : Nat) : Prop where
  ex : ∃ v x, CrRep w A0 y pg R S cls v (crRun hd lk n ra cls j (l, cr0)).2 ∧ Mem w m bb N (crRun hd lk n ra cls j (l, cr0)).1 (cc + (crRun hd lk n ra cls j (l, cr0)).2.c) x ∧ (∀ z ∈ ownB v, A0 ≤ z)
theorem CrRep.other {g : Nat} {cs : Array Value} {T : TypeId} (h : CrRep w B y pg R S cls v s) (M : Mem w m bb N l cc x) (hg : Has w g cs T) (t1 : T ≠ 140) (t2 : T ≠ 177) (t3 : T ≠ 103) (t4 : T ≠ 99) (t5 : T ≠ 3) : g ∉ y :: pg :: m :: bb :: ownB v := by
  simp only [List.mem_cons, not_or]
  exact ⟨hg.ne h.has t1, hg.ne h.pop.has t2, hg.ne M.hg t3, hg.ne M.hb t4, fun hm => h.pop.row.ne hg (Ne.symm t5) g hm rfl⟩
theorem crAt_start (hp : PoRep w A0 pg S (.slice none 0 0) ⟨0, 0, 1, 0, 0, []⟩) (hx : Has w y (createOf (bound 135 y) 0 R cls pg y (-1) 0 0 0 0 0 0) 140) (M : Mem w m bb N l cc x) :
    CrAt w y pg R S m bb N cls hd lk n ra l cc A0 0 :=
  ⟨.slice none 0 0, x, ⟨hx, hp⟩, by show Mem w m bb N l (cc + 0) x; rw [Int.add_zero]; exact M, by simp⟩
theorem crAt_step {j : Nat} (h : CrAt w y pg R S m bb N cls hd lk n ra l cc A0 j) (hR : Has w R (rootsOf m p k d sn cz b S) 109) (hS : Has w S (stackOf m hd lk n) 143) (L : StOk hd lk n N l) (A : RtAt p k d sn cz b ra n N) (hj : j ≤ 100000) (hA : A0 ≤ w.heap.size) (hy : A0 ≤ y) (hpg : A0 ≤ pg) (h0 : 0 ≤ cc) (hcc : cc ≤ 4000000000000000000) :
    Calls Tryz.prog 29 #[.pointer (some ⟨y, 0, none⟩)] w fun e w' => (∃ o, e = .returned (.bool o)) ∧ (∀ C : Nat, A0 ≤ w.heap.size → C ≤ A0 → C ≤ m → C ≤ bb → ∀ w0, Keeps w0 w → w0.heap.size ≤ C → Keeps w0 w') ∧ CrAt w' y pg R S m bb N cls hd lk n ra l cc A0 (j + 1) ∧ Has w' R (rootsOf m p k d sn cz b S) 109 ∧ Has w' S (stackOf m hd lk n) 143 ∧ w.heap.size ≤ w'.heap.size ∧
      (∀ (g : Nat) (cs : Array Value) (T : TypeId), Has w g cs T → T ≠ 140 → T ≠ 177 → T ≠ 103 → T ≠ 99 → T ≠ 3 → Has w' g cs T) := by
  obtain ⟨v, x, hr, M, hv⟩ := h.ex
  obtain ⟨okl, inv⟩ := crRun_inv (hd := hd) (lk := lk) (n := n) (N := N) (ra := ra) (cls := cls) (p := (l, cr0)) (C := 0) L (cr0_inv n) j
  have ic0 := inv.c0
  have ic1 := inv.c1
  refine (crStep_c hr hR hS M okl A (inv.ok (by omega)) hA (by omega)).mono ?_
  rintro e w' ⟨v', rfl, hu, hr', ⟨x', M'⟩, ho⟩
  have tr : ∀ (g : Nat) (cs : Array Value) (T : TypeId), Has w g cs T → T ≠ 140 → T ≠ 177 → T ≠ 103 → T ≠ 99 → T ≠ 3 → Has w' g cs T :=
    fun g cs T hg t1 t2 t3 t4 t5 => hg.upd hu (hr.other M hg t1 t2 t3 t4 t5)
  refine ⟨⟨_, rfl⟩, fun C hC hCA hCm hCb w0 hk hw0 => hk.upd hu (fun z hz => ?_), ⟨v', x', hr', ?_, fun z hz => ?_⟩, tr _ _ _ hR (by decide) (by decide) (by decide) (by decide) (by decide), tr _ _ _ hS (by decide) (by decide) (by decide) (by decide) (by decide), hu.size, tr⟩
  · simp only [List.mem_cons] at hz
    rcases hz with rfl | rfl | rfl | rfl | hz
    · omega
    · omega
    · omega
    · omega
    · have := hv z hz; omega
  · have e1 : (crRun hd lk n ra cls (j + 1) (l, cr0)).2.c = (crRun hd lk n ra cls j (l, cr0)).2.c + crCount (crRun hd lk n ra cls j (l, cr0)).2 := crStep_count _ _ _ _ _ _ _
    rw [e1, ← Int.add_assoc]
    exact M'
  · rcases ho z hz with h1 | h1
    · exact hv z h1
    · omega
end
/-- Memories of n slots. -/
theorem rtAt (n : Nat) (h1 : 1 ≤ n) (h2 : n ≤ 4) : RtAt 1 1 8 n 0 1 4 n (13 + 2 * n) :=
  ⟨fun i h0 h1' => by unfold crootI; rw [atI_t (mayB_rt h1 h2) h0 h1']; omega, by omega⟩
theorem rtL_ok (n : Nat) (h1 : 1 ≤ n) (h2 : n ≤ 4) : StRep 1 (4 + n) n (13 + 2 * n) (rtL n) 0 (baseL n) :=
  StRep.fill ⟨by simp, by omega, by omega, by omega, by omega, fun v hv => by rw [List.mem_replicate] at hv; omega⟩ (by omega) h1
theorem rtL_root (n : Nat) (h1 : 1 ≤ n) (i : Nat) (hi : i < n) : (rtL n).getD (4 + i) 0 = 0 := by
  have : (rtL n)[4 + i]? = some 0 := by
    unfold rtL
    rw [stFill_outR _ _ _ _ _ (by omega) (by omega) h1, List.getElem?_replicate_of_lt (by omega)]
  rw [List.getD_eq_getElem?_getD, this]; rfl
theorem rootsFirst_c (w : World) : Calls Tryz.prog 6 #[] w fun e w' => e = .returned (.bool true) ∧ Keeps w w' := by
  have HMd := Lib.hid (madeR_c 2 w (by omega) (by omega))
  have h2 : StRep 1 6 2 17 (rtL 2) 0 (0 :: [1]) := rtL_ok 2 (by omega) (by omega)
  have h0 : (rtL 2).getD 4 0 = 0 := rtL_root 2 (by omega) 0 (by omega)
  obtain ⟨pop, l', hrun, -, -, -⟩ := cr_some (cls := 0) (ra := 4) h2 (by omega) (by omega) (by omega)
  have hrun2 : crRun 1 6 2 4 0 5 (rtL 2, cr0) = (l'.set 4 (rootI (genN ((rtL 2).getD 4 0 / 4294967296)) 1 0 0), ⟨3, 5, 0, 3, genN ((rtL 2).getD 4 0 / 4294967296), 1, 0, 0, 0, pop⟩) := hrun
  rw [h0] at hrun2
  have HRun : Hid (crRun 1 6 2 4 0 5 (rtL 2, cr0) = (l'.set 4 (rootI 1 1 0 0), ⟨3, 5, 0, 3, 1, 1, 0, 0, 0, pop⟩)) := Lib.hid hrun2
  have HOk := Lib.hid h2.ok
  have HAt : Hid (RtAt 1 1 8 (2 : Nat) 0 1 4 2 17) := Lib.hid (rtAt 2 (by omega) (by omega))
  clear hrun hrun2 h0 h2
  go_enter Tryz.func6, Tryz.ntmps6
  go_wp2_with (first
    | (go_at_call 17; refine HMd.out.mono ?_; rintro e w' ⟨m, bb, R, S, W, g, gb, Pl, Sp, E, rfl, K0, ⟨hm, hb, hR0, hS0, -⟩, -, M, HR, HS, -, -, -⟩)
    | (go_at_call 28; refine (mkCreate_c (B := w.heap.size) _ HR).mono ?_; rintro e w' ⟨y, pg, rfl, hk, hy, hpg, hp, hx⟩; have hs1 := K0.size; have HR := HR.keeps hk; have HS := HS.keeps hk; have M := M.keeps hk; have K0 := K0.trans hk))
  have hA : w.heap.size ≤ w'.heap.size := K0.size
  have hy2 : w.heap.size ≤ y := by omega
  have hpg2 : w.heap.size ≤ pg := by omega
  have C := crAt_start (hd := 1) (lk := 6) (n := 2) (ra := 4) hp hx M
  clear hp hx M hk hy hpg hs1
  go_loopw [5] (fun i wr => ∃ q : Nat, q ≤ 5 ∧ i = .int .i64 q ∧ CrAt wr y pg R S m bb 17 0 1 6 2 4 (rtL 2) 0 w.heap.size q ∧ Has wr R (rootsOf m 1 1 8 (2 : Nat) 0 1 S) 109 ∧ Has wr S (stackOf m (1 : Nat) ((6 : Nat) : Int) (2 : Nat)) 143 ∧ Keeps w wr) (fun i _ => 5 - (intOf i).toNat)
  case atStart => exact ⟨0, by omega, rfl, C, HR, HS, K0⟩
  case round =>
    obtain ⟨q, hq, rfl, C, HR, HS, K0⟩ := hrel
    have hAr := K0.size
    by_cases hlt : q < 5
    · go_wp2_with (go_at_call 29; refine (crAt_step C HR HS HOk.out HAt.out (by omega) hAr hy2 hpg2 (by omega) (by omega)).mono ?_; rintro e w9 ⟨⟨o, rfl⟩, hkk, C, HR, HS, -, -⟩; have K0 := hkk w.heap.size hAr (Nat.le_refl _) hm hb w K0 (Nat.le_refl _))
      go_roundw
      case rel => exact ⟨q + 1, by omega, by go_num, C, HR, HS, K0⟩
      case measure => simp [intOf]; omega
    · obtain rfl : q = 5 := by omega
      obtain ⟨v, x, hr, M, -⟩ := C.ex
      rw [HRun.out] at hr M
      have hx := hr.has
      have HReg := Lib.hid (crRegion_c (o := none) (s2 := 0) (g2 := 1) (fun _ => ⟨rfl, rfl⟩) (fun h => absurd ⟨rfl, rfl⟩ h) hx)
      clear C hr
      go_wp2_with (first
        | (go_at_call 30; refine HReg.out.mono ?_; rintro e w9 ⟨rfl, j, rfl⟩)
        | (go_at_call 31; refine (crDone_c (o := none) (hx.keeps (by ((repeat' (first | (with_reducible exact Keeps.refl _) | (with_reducible assumption) | (with_reducible refine Keeps.drewN ?_ _) | (with_reducible refine Keeps.drew ?_) | (with_reducible refine Keeps.alloc ?_ _) | (with_reducible refine Keeps.setCell ?_ ?_ _) | (with_reducible refine Keeps.trans ?_ (After.keeps _)) | (with_reducible refine Keeps.trans ?_ (by with_reducible assumption)) | go_size)); (first | done | fail))))).mono ?_; rintro e w' ⟨rfl, rfl⟩)
        | (go_at_call 32; refine (crCode_c (hx.keeps (by ((repeat' (first | (with_reducible exact Keeps.refl _) | (with_reducible assumption) | (with_reducible refine Keeps.drewN ?_ _) | (with_reducible refine Keeps.drew ?_) | (with_reducible refine Keeps.alloc ?_ _) | (with_reducible refine Keeps.setCell ?_ ?_ _) | (with_reducible refine Keeps.trans ?_ (After.keeps _)) | (with_reducible refine Keeps.trans ?_ (by with_reducible assumption)) | go_size)); (first | done | fail))))).mono ?_; rintro e w' ⟨rfl, rfl⟩)
        | (go_at_call 33; refine (crPoint_c (hx.keeps (by ((repeat' (first | (with_reducible exact Keeps.refl _) | (with_reducible assumption) | (with_reducible refine Keeps.drewN ?_ _) | (with_reducible refine Keeps.drew ?_) | (with_reducible refine Keeps.alloc ?_ _) | (with_reducible refine Keeps.setCell ?_ ?_ _) | (with_reducible refine Keeps.trans ?_ (After.keeps _)) | (with_reducible refine Keeps.trans ?_ (by with_reducible assumption)) | go_size)); (first | done | fail))))).mono ?_; rintro e w' ⟨rfl, rfl⟩)
        | (go_at_call 16; refine (mcount (M.keeps (by ((repeat' (first | (with_reducible exact Keeps.refl _) | (with_reducible assumption) | (with_reducible refine Keeps.drewN ?_ _) | (with_reducible refine Keeps.drew ?_) | (with_reducible refine Keeps.alloc ?_ _) | (with_reducible refine Keeps.setCell ?_ ?_ _) | (with_reducible refine Keeps.trans ?_ (After.keeps _)) | (with_reducible refine Keeps.trans ?_ (by with_reducible assumption)) | go_size)); (first | done | fail))))).mono ?_; rintro e w' ⟨rfl, rfl⟩))
      go_ret
      exact ⟨rfl, by ((repeat' (first | (with_reducible exact Keeps.refl _) | (with_reducible assumption) | (with_reducible refine Keeps.drewN ?_ _) | (with_reducible refine Keeps.drew ?_) | (with_reducible refine Keeps.alloc ?_ _) | (with_reducible refine Keeps.setCell ?_ ?_ _) | (with_reducible refine Keeps.trans ?_ (After.keeps _)) | (with_reducible refine Keeps.trans ?_ (by with_reducible assumption)) | go_size)); (first | done | fail))⟩
end Go.Proofs.YtaecapjicphdkaaGreat
