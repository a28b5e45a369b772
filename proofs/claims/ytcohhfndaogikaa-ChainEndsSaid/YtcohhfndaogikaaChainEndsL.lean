/- The law ChainEnds, walked. -/
import Derived.Test.YtcohhfndaogikaaChainG
import Derived.Deep.QuietTactic
import Derived.BigQuiet
import Derived.Deep.RegionHeld3
import Derived.Deep.DrawnRows
namespace Go.Proofs.Ytcohhfndaogikaa
set_option linter.unusedVariables false
set_option linter.unusedSimpArgs false
open Go Go.RowKit
set_option maxRecDepth 100000
attribute [local go_sem ↓] Go.wp_at_zero Go.wp_at_succ
set_option maxHeartbeats 2000000

theorem lf_self {lk n : Nat} {l : List Int} {a : Int} (h : belowI n (l.getD ((lk : Int) + a).toNat 0) = a) (h0 : 0 ≤ a) : ∀ f : Nat, listFrom lk n l f a = List.replicate f a
  | 0 => rfl
  | f + 1 => by rw [lf_cons f h0, h, lf_self h h0 f]; rfl
theorem lf_one {lk n : Nat} {l : List Int} {a : Int} (hn : 1 ≤ n) (h0 : 0 ≤ a) (h : belowI n (l.getD ((lk : Int) + a).toNat 0) = -1) : listFrom lk n l n a = [a] := by
  have e : ∀ f : Nat, 1 ≤ f → listFrom lk n l f a = [a] := by
    intro f hf
    obtain ⟨g, rfl⟩ : ∃ g, f = g + 1 := ⟨f - 1, by omega⟩
    rw [lf_cons g h0, h, lf_neg _ (by decide)]
  exact e n hn
theorem number_ex2 (v n : Int) (w : World) (h : 1 ≤ n) (h2 : n ≤ 4611686018427387904) : Calls Try.prog 16 #[.int .i64 v, .int .i64 n] w fun e w' => ∃ q : Nat, e = .returned (.int .i64 q) ∧ (q : Int) < n ∧ w = w' := by
  have hb := mod_bd v n h
  obtain ⟨q, hq⟩ := Int.eq_ofNat_of_zero_le hb.1
  refine (number_c v n w h h2).mono ?_
  rintro e w' ⟨rfl, rfl⟩
  exact ⟨q, by rw [hq], by omega, rfl⟩
theorem link_6 (K q : Nat) (w : World) (h1 : 1 ≤ K) (h2 : K ≤ 4096) (hq : q < K) : Calls Try.prog 21 #[cfgV 1 K 8 1 0 1, .int .i64 q] w fun e w' => e = .returned (.int .i64 (q + 6 : Nat)) ∧ Keeps w w' :=
  (link_in 1 K 8 1 0 1 q w (cmay h1 h2) (by omega) (by omega)).mono fun e w' ⟨h, k⟩ => ⟨by rw [h, show (3 + 1 + 1 + 1 + (q : Int)) = ((q + 6 : Nat) : Int) by omega], k⟩
theorem chainEnds_c (n at_ bd : Int) (w : World) (b0 : 0 ≤ bd) (b1 : bd < 18446744073709551616) :
    Calls Try.prog 3 #[.int .i64 n, .int .i64 at_, .int .u64 bd] w fun e w' => e = .returned (.bool true) ∧ Keeps w w' := by
  go_enter Try.func3, Try.ntmps3
  go_wp2_with (first
    | (go_at_call 13; refine (chainFirst_c _).mono ?_; rintro e w' ⟨rfl, K0⟩)
    | (go_at_call 14; refine (csize_c _ _).mono ?_; rintro e w' ⟨K, rfl, ⟨k3, k10, -⟩, hks⟩; have K0 := K0.trans hks; have HC := Has.new w' (cfgA 1 K 8 1 0 1) 25; have hcs : w.heap.size ≤ w'.heap.size := K0.size; have K0 := K0.alloc (.cells (cfgA 1 K 8 1 0 1) 25); generalize hcb : w'.heap.size = cb at *)
    | (go_at_call 15; refine (cmade_c K _ k3 k10).mono ?_; rintro e w' ⟨m, bb, X, P, rfl, hk, hm, hb, hX, hP, H⟩; have k0s := K0.size; have K0 := K0.trans hk; have hm := Nat.le_trans k0s hm; have hb := Nat.le_trans k0s hb; have HC := HC.keeps hk; have FX_ := (HC).facts; simp only [blockFacts, listFacts, cellsAt, Nat.reduceAdd, and_true, true_and, and_assoc] at FX_)
    | (go_at_call 16; refine (number_ex2 _ _ _ (by omega) (by omega)).mono ?_; rintro e w' ⟨q, rfl, hqK, rfl⟩)
    | (go_at_call 17; refine (csets_c q q (q + 6) H (inB_yes (by omega) (by omega)) (.inr (inB_yes (by omega) (by omega))) (by omega) (by omega)).mono ?_; rintro e w' ⟨rfl, hu, H2⟩; have hll := H.ok.len; have HRp : Hid (listFrom 6 K ((stFill 0 6 K (List.replicate (9 * K + 6) 0)).set (q + 6) ((q : Int) + 1)) K q = List.replicate K (q : Int)) := Lib.hid (lf_self (by rw [show ((((6 : Nat) : Int) + (q : Int)).toNat) = q + 6 by omega, getD_set_eq _ (by omega)]; unfold belowI; rw [if_neg (by omega)]; omega) (by omega) K); have K0 := K0.upd hu (ge_mb hm hb); have HC := HC.upd hu (by simp only [List.mem_cons, List.not_mem_nil, or_false, not_or]; obtain ⟨x0, M0⟩ := H.mem; exact ⟨Has.ne HC M0.hg (by decide), Has.ne HC M0.hb (by decide)⟩); have H := H2)
    | (go_at_call 18; refine (cwalks_c q H (inB_yes (by omega) (by omega)) (by omega) (by omega)).mono ?_; rintro e w' ⟨v, rfl, hu, H2, R⟩; rw [HRp.out] at R H2 ⊢; rw [List.length_replicate] at H2 ⊢; have K0 := K0.upd hu (ge_mb hm hb); have HC := HC.upd hu (by simp only [List.mem_cons, List.not_mem_nil, or_false, not_or]; obtain ⟨x0, M0⟩ := H.mem; exact ⟨Has.ne HC M0.hg (by decide), Has.ne HC M0.hb (by decide)⟩); have H := H2))
  obtain ⟨va, vc, hv, -⟩ := R.reads
  rw [List.length_replicate] at hv
  subst hv
  have HD : ChAt w'.drew m bb (9 * K + 6) X P 6 K 1 8 1 0 1 _ _ := H.keeps (Keeps.drew (Keeps.refl w'))
  go_region_held3 (fun y => y.cell? ⟨cb, 1, none⟩ = some (.int .i64 K)) (((repeat' (with_reducible apply And.intro)) <;> (apply Has.cellv; (focus ((repeat (first | (with_reducible assumption) | (with_reducible exact Has.new _ _ _) | (with_reducible exact Has.new1 _ _ _ _) | (with_reducible exact Has.new2 _ _ _ _ _) | (with_reducible refine Has.newAt ?_; (simp; done)) | (with_reducible apply Has.set) | (with_reducible apply Has.far; (case hn => first | assumption | (simp; done) | (intro e_; simp at e_; omega))) | (with_reducible apply Has.alloc) | (with_reducible apply Has.drewN) | (with_reducible apply Has.drew) | (with_reducible refine Has.keeps ?_ (by with_reducible assumption)))))); (first | (with_reducible assumption) | rfl | (simp; done) | fail))))
    ((go_at_call 19; refine ((xlist_c q HD.hX HD.mem.choose_spec H.ok H.may H.hlk (inB_yes (by omega) (by omega)))).mono ?_; rintro e w' ⟨v5, rfl, hk5, R5⟩; rw [HRp.out] at R5; have KK5 := (Keeps.drew (Keeps.refl _)).trans hk5; have H := H.keeps KK5; have R := R.keeps KK5; have HC := HC.keeps KK5; have K0 := K0.trans KK5; obtain ⟨v5a, v5c, hv5, -⟩ := R5.reads; rw [List.length_replicate] at hv5; subst hv5))
  go_wp2
  have GG := Lib.hid (And.intro H (And.intro R (And.intro HC K0)))
  have HMB := Lib.hid (And.intro hm hb)
  clear H R HC K0 HD R5
  go_loopw [14] (fun iv wr => ∃ i : Nat, i ≤ K ∧ iv = .int .i64 i ∧ Keeps w' wr) (fun iv _ => K - (intOf iv).toNat)
  case atStart => exact ⟨0, by omega, rfl, Keeps.refl _⟩
  case round =>
    obtain ⟨i, hi, rfl, KQ⟩ := hrel
    have H := GG.out.1.keeps KQ
    have R := GG.out.2.1.keeps KQ
    have HC := GG.out.2.2.1.keeps KQ
    have K0 := GG.out.2.2.2.trans KQ
    by_cases hlt : i < K
    · have hlt' : (i : Int) < (K : Int) := by omega
      obtain ⟨lb, lcap, cur, hvv, hLb, hcur⟩ := R.formI (by simp; omega)
      rw [List.length_replicate] at hvv
      cases hvv
      have c1 := hLb.cellv (hcur i (by simpa using hlt))
      have e1 : (List.replicate K (q : Int)).getD i 0 = q := by rw [List.getD_eq_getElem?_getD, List.getElem?_replicate, if_pos hlt]; rfl
      rw [e1] at c1
      clear e1 hcur
      go_wp2
      go_roundw
      case rel => exact ⟨i + 1, by omega, by go_num, KQ⟩
      case measure => simp [intOf] <;> omega
    · obtain rfl : i = K := by omega
      have H := GG.out.1.keeps KQ
      have HC := GG.out.2.2.1.keeps KQ
      have K0 := GG.out.2.2.2.trans KQ
      have hm := HMB.out.1
      have hb := HMB.out.2
      have FX_ := (HC).facts; simp only [blockFacts, listFacts, cellsAt, Nat.reduceAdd, and_true, true_and, and_assoc] at FX_
      have pw := wrapW_ok (i : Int) (by omega) (by omega)
      by_cases hbd : bd ≤ (i : Int)
      · have hbd10 : bd ≤ 10 := by omega
        have HL2 : Hid (listFrom 6 i (((stFill 0 6 i (List.replicate (9 * i + 6) 0)).set (q + 6) ((q : Int) + 1)).set (q + 6) (bd + (i : Int) + 1)) i q = [(q : Int)]) := Lib.hid (by
          refine lf_one (by omega) (by omega) ?_
          rw [show ((((6 : Nat) : Int) + (q : Int)).toNat) = q + 6 by omega, getD_set_eq _ (by rw [List.length_set, hll]; omega)]
          unfold belowI
          rw [if_pos (by omega)])
        have HOo : Hid (((stFill 0 6 i (List.replicate (9 * i + 6) 0)).set (q + 6) ((q : Int) + 1))[q + 6]? = some (((stFill 0 6 i (List.replicate (9 * i + 6) 0)).set (q + 6) ((q : Int) + 1)).getD (q + 6) 0)) := Lib.hid (getD_some (by rw [List.length_set, hll]; omega))
        obtain ⟨x0, M0⟩ := H.mem
        have tk : True := trivial
        go_wp2_with (first
          | (go_at_call 21; refine (link_6 i q _ (by omega) (by omega) (by omega)).mono ?_; rintro e w' ⟨rfl, hk5⟩; have M0 := M0.keeps hk5; have H := H.keeps hk5; have K0 := K0.trans hk5)
          | (go_at_call 20; refine (mlay_in M0 (q + 6) (bd + (i : Int) + 1) HOo.out).mono ?_; rintro e w' ⟨rfl, hu, M0⟩; have H := H.step hu H.nX.1 H.nX.2 M0 (H.ok.set _ _ (by omega) (by omega)) H.c0; have K0 := K0.upd hu (ge_mb hm hb))
          | (go_at_call 18; refine (cwalks_c q H (inB_yes (by omega) (by omega)) (by omega) (by omega)).mono ?_; rintro e w' ⟨v, rfl, hu, H, R⟩; rw [HL2.out] at R H ⊢; have K0 := K0.upd hu (ge_mb hm hb))
          | (go_at_call 19; refine ((xlist_c q H.hX H.mem.choose_spec H.ok H.may H.hlk (inB_yes (by omega) (by omega)))).mono ?_; rintro e w' ⟨v5, rfl, hk5, R5⟩; rw [HL2.out] at R5; have H := H.keeps hk5; have K0 := K0.trans hk5)
          | (go_at_call 22; have t_ := tk; clear t_ tk; refine (sameInts_yes _ _ [(q : Int)] _ (R.alloc _).reads (reads_one (Has.newAt (by simp)) _) (by simp)).mono ?_; rintro e w' ⟨rfl, hk6⟩; have H := (H.keeps ((Keeps.refl _).alloc _)).keeps hk6; have K0 := (K0.alloc _).trans hk6)
          | (go_at_call 22; refine (sameInts_yes _ _ [(q : Int)] _ (R5.alloc _).reads (reads_one (Has.newAt (by simp)) _) (by simp)).mono ?_; rintro e w' ⟨rfl, hk6⟩; have H := (H.keeps ((Keeps.refl _).alloc _)).keeps hk6; have K0 := (K0.alloc _).trans hk6))
        go_ret
        exact ⟨rfl, K0⟩
      · skip
        have HL2 : Hid (listFrom 6 i (((stFill 0 6 i (List.replicate (9 * i + 6) 0)).set (q + 6) ((q : Int) + 1)).set (q + 6) (bd)) i q = [(q : Int)]) := Lib.hid (by
          refine lf_one (by omega) (by omega) ?_
          rw [show ((((6 : Nat) : Int) + (q : Int)).toNat) = q + 6 by omega, getD_set_eq _ (by rw [List.length_set, hll]; omega)]
          unfold belowI
          rw [if_pos (by omega)])
        have HOo : Hid (((stFill 0 6 i (List.replicate (9 * i + 6) 0)).set (q + 6) ((q : Int) + 1))[q + 6]? = some (((stFill 0 6 i (List.replicate (9 * i + 6) 0)).set (q + 6) ((q : Int) + 1)).getD (q + 6) 0)) := Lib.hid (getD_some (by rw [List.length_set, hll]; omega))
        obtain ⟨x0, M0⟩ := H.mem
        have tk : True := trivial
        go_wp2_with (first
          | (go_at_call 21; refine (link_6 i q _ (by omega) (by omega) (by omega)).mono ?_; rintro e w' ⟨rfl, hk5⟩; have M0 := M0.keeps hk5; have H := H.keeps hk5; have K0 := K0.trans hk5)
          | (go_at_call 20; refine (mlay_in M0 (q + 6) (bd) HOo.out).mono ?_; rintro e w' ⟨rfl, hu, M0⟩; have H := H.step hu H.nX.1 H.nX.2 M0 (H.ok.set _ _ (by omega) (by omega)) H.c0; have K0 := K0.upd hu (ge_mb hm hb))
          | (go_at_call 18; refine (cwalks_c q H (inB_yes (by omega) (by omega)) (by omega) (by omega)).mono ?_; rintro e w' ⟨v, rfl, hu, H, R⟩; rw [HL2.out] at R H ⊢; have K0 := K0.upd hu (ge_mb hm hb))
          | (go_at_call 19; refine ((xlist_c q H.hX H.mem.choose_spec H.ok H.may H.hlk (inB_yes (by omega) (by omega)))).mono ?_; rintro e w' ⟨v5, rfl, hk5, R5⟩; rw [HL2.out] at R5; have H := H.keeps hk5; have K0 := K0.trans hk5)
          | (go_at_call 22; have t_ := tk; clear t_ tk; refine (sameInts_yes _ _ [(q : Int)] _ (R.alloc _).reads (reads_one (Has.newAt (by simp)) _) (by simp)).mono ?_; rintro e w' ⟨rfl, hk6⟩; have H := (H.keeps ((Keeps.refl _).alloc _)).keeps hk6; have K0 := (K0.alloc _).trans hk6)
          | (go_at_call 22; refine (sameInts_yes _ _ [(q : Int)] _ (R5.alloc _).reads (reads_one (Has.newAt (by simp)) _) (by simp)).mono ?_; rintro e w' ⟨rfl, hk6⟩; have H := (H.keeps ((Keeps.refl _).alloc _)).keeps hk6; have K0 := (K0.alloc _).trans hk6))
        go_ret
        exact ⟨rfl, K0⟩
end Go.Proofs.Ytcohhfndaogikaa
