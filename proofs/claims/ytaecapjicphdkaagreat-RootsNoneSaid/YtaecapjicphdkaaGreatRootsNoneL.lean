/- The law RootsNone, walked. -/
import Derived.Test.YtaecapjicphdkaaGreatRootsK
import Derived.Test.YtaecapjicphdkaaGreatConfW
namespace Go.Proofs.YtaecapjicphdkaaGreat
set_option linter.unusedVariables false
set_option linter.unusedSimpArgs false
open Go Go.RowKit
set_option maxRecDepth 100000
set_option maxHeartbeats 20000000

theorem wrapR_ok (a : Int) (h0 : -9223372036854775808 ≤ a) (h1 : a < 9223372036854775808) : IntKind.i64.wrap a = a := by
  rw [IntKind.wrap_i64]
  omega
theorem cfg_mayR {p k d s c b : Int} (h : (1 ≤ p ∧ p ≤ 4) ∧ (1 ≤ k ∧ k ≤ 8) ∧ (d = 8 ∨ d = 16) ∧ (1 ≤ s ∧ s ≤ 4) ∧ (0 ≤ c ∧ c ≤ 3) ∧ 1 ≤ b ∧ b ≤ 3) : mayB p k d s c b = true := by
  refine mayB_true.2 ⟨?_, ?_, ?_, ?_, ?_, ?_, ?_⟩ <;> omega
theorem lenR_bd {p k d s c b : Int} (h : mayB p k d s c b = true) : 15 ≤ lenI p k d s c b ∧ lenI p k d s c b ≤ 8388608 := by
  obtain ⟨⟨p1, p2⟩, ⟨k1, k2⟩, ⟨d1, d2⟩, d3, ⟨s1, s2⟩, c1, b1⟩ := mayB_true.1 h
  have hp := prod_bd k1 k2 d1 d2
  have e : lenI p k d s c b = 3 + p + 2 * s + k + k * d := by unfold lenI; rw [h]; rfl
  omega
@[go_sem] theorem root_field0 (a b c d : Int) (w : World) : Sem.run Tryz.prog (Instr.field 45 (.agg #[.int .i64 a, .int .i64 b, .int .i64 c, .int .i64 d]) 0) w = .ok (.int .i64 a) w := by kernel_rfl
@[go_sem] theorem root_field1 (a b c d : Int) (w : World) : Sem.run Tryz.prog (Instr.field 45 (.agg #[.int .i64 a, .int .i64 b, .int .i64 c, .int .i64 d]) 1) w = .ok (.int .i64 b) w := by kernel_rfl
theorem number_exR (v n : Int) (w : World) (h : 1 ≤ n) (h2 : n ≤ 4611686018427387904) : Calls Tryz.prog 10 #[.int .i64 v, .int .i64 n] w fun e w' => ∃ q : Int, e = .returned (.int .i64 q) ∧ (0 ≤ q ∧ q < n) ∧ w = w' := by
  have hb := mod_bd v n h
  refine (number_c v n w h h2).mono ?_
  rintro e w' ⟨rfl, rfl⟩
  exact ⟨_, rfl, hb, rfl⟩
theorem rootsNone_c (n less slot : Int) (w : World) : Calls Tryz.prog 3 #[.int .i64 n, .int .i64 less, .int .i64 slot] w fun e w' => e = .returned (.bool true) ∧ Keeps w w' := by
  have t0 : True := trivial
  have t1 : True := trivial
  have hs1 := mod_bd slot 1000 (by omega)
  have hs2 := mod_bd slot 2 (by omega)
  obtain ⟨qa, hqa⟩ : ∃ q, slot % 1000 = q := ⟨_, rfl⟩
  obtain ⟨qb, hqb⟩ : ∃ q, slot % 2 = q := ⟨_, rfl⟩
  rw [hqa] at hs1
  rw [hqb] at hs2
  have HA := Lib.hid hqa
  have HB := Lib.hid hqb
  clear hqa hqb
  obtain ⟨ha0, ha1⟩ := hs1
  obtain ⟨hb0, hb1⟩ := hs2
  have h7 := mod_bd less 7 (by omega)
  obtain ⟨q7, hq7⟩ : ∃ q, less % 7 = q := ⟨_, rfl⟩
  rw [hq7] at h7
  have H7 := Lib.hid hq7
  clear hq7
  obtain ⟨h70, h71⟩ := h7
  go_enter Tryz.func3, Tryz.ntmps3
  go_upto_region 7 with (first
    | (go_at_call 6; refine (rootsFirst_c _).mono ?_; rintro e w' ⟨rfl, K0⟩)
    | (go_at_call 7; refine (config_c _ _).mono ?_; rintro e wc ⟨p, k, d, s, c, b, rfl, hcf, hk⟩; have hm := cfg_mayR hcf; obtain ⟨⟨p1, p2⟩, ⟨k1, k2⟩, hd, ⟨s1, s2⟩, ⟨c1, c2⟩, bb1, bb2⟩ := hcf; have K0 := K0.trans hk; have hCw := K0.size; have HC := Has.new wc (cfgA p k d s c b) 24; have HM := Lib.hid hm; have hlb := lenR_bd hm; clear hm; have K0 := K0.alloc (.cells (cfgA p k d s c b) 24); obtain ⟨q, hq⟩ : ∃ q, lenI p k d s c b = q := ⟨_, rfl⟩; rw [hq] at hlb; have HQ := Lib.hid hq; clear hq; obtain ⟨hl0, hl1⟩ := hlb; have FX_ := (HC).facts; simp only [blockFacts, listFacts, cellsAt, Nat.reduceAdd, and_true, true_and, and_assoc] at FX_)
    | (go_at_call 8; refine (len_c _ _ _ _ _ _ _).mono ?_; rintro e w' ⟨rfl, hk⟩; rw [HQ.out]; have K0 := K0.trans hk; have HC := HC.keeps hk)
    | (go_at_call 9; refine (mnew_int q _ (by omega) (by omega)).mono ?_; rintro e w' ⟨m, bb, rfl, hk, hmm, hbb, M⟩; have K0 := K0.trans hk; have HC := HC.keeps hk))
  have ltC := HC.lt
  generalize hCb : wc.heap.size = C at *
  have HCb := Lib.hid hCb
  clear hCb
  have hCC : w.heap.size ≤ C := by have := HCb.out; omega
  have K1 := K0
  go_upto_region 10 with (first
    | (go_at_call 10; refine (number_exR _ _ _ (by omega) (by omega)).mono ?_; rintro e w9 ⟨r, rfl, ⟨r0, r1⟩, rfl⟩)
    | (go_at_call 9; refine (mnew_int _ _ (by omega) (by omega)).mono ?_; rintro e w' ⟨m2, b2, rfl, hk2, hm2, hb2, M2⟩; have K1 := K1.trans hk2; have HC := HC.keeps hk2; have M := M.keeps hk2))
  have HBad : Hid (mayB p k (d + 1 + q7) s c b = false) := Lib.hid (by rw [← Bool.not_eq_true, mayB_true]; omega)
  have HLs : Hid (((1 + r).toNat : Int) < lenI p k d s c b) := Lib.hid (by rw [HQ.out]; omega)
  have HLe : Hid (lenI p k d s c b ≤ (q.toNat : Int)) := Lib.hid (by rw [HQ.out]; omega)
  have w1 := wrapR_ok (d + 1) (by omega) (by omega)
  have w2 := wrapR_ok (d + 1 + q7) (by omega) (by omega)
  have K1sz := K1.size
  clear FX_
  have FX_ := (HC).facts; simp only [blockFacts, listFacts, cellsAt, Nat.reduceAdd, and_true, true_and, and_assoc] at FX_
  go_upto_region 11 with (go_at_call 11; refine (rootsNew_small M2 HM.out HLs.out).mono ?_; rintro e w' ⟨rfl, hk3⟩; have K1 := K1.trans hk3; have HC := HC.keeps hk3; have M := M.keeps hk3)
  clear M2 hk2 hm2 hb2 FX_
  have FX_ := (HC).facts; simp only [blockFacts, listFacts, cellsAt, Nat.reduceAdd, and_true, true_and, and_assoc] at FX_
  go_upto_region 12 with fail
  refine wp_named' (fun W2 hW2 => ?_)
  have HC2 : Has W2 w'.heap.size (cfgA p k d s c b) 24 := by rw [hW2]; exact Has.new w' _ _
  have HK2 : Keeps w' W2 := by rw [hW2]; ((repeat' (first | (with_reducible exact Keeps.refl _) | (with_reducible assumption) | (with_reducible refine Keeps.drewN ?_ _) | (with_reducible refine Keeps.drew ?_) | (with_reducible refine Keeps.alloc ?_ _) | (with_reducible refine Keeps.setCell ?_ ?_ _) | (with_reducible refine Keeps.trans ?_ (After.keeps _)) | (with_reducible refine Keeps.trans ?_ (by with_reducible assumption)) | go_size)); (first | done | fail))
  have hC2 : w.heap.size ≤ w'.heap.size := K1.size
  have nCC : C ≠ w'.heap.size := by have := HC.lt; omega
  clear hW2 FX_
  have K1 := K1.trans HK2
  have HC := HC.keeps HK2
  have M := M.keeps HK2
  generalize w'.heap.size = C2 at *
  have nmC := Has.ne M.hg HC2 (by decide)
  have nbC := Has.ne M.hb HC2 (by decide)
  go_cut [] (fun wc => Has wc C2 (cfgA p k (d + 1 + q7) s c b) 24 ∧ Upd [C2] W2 wc)
  case first =>
    have X2 : W2.drew.cell? ⟨C2, 2, none⟩ = some (.int .i64 d) := HC2.drew.cell 2
    have F2 := HC2.drew.frozen
    go_region_with ((go_at_call 10; refine (number_c _ _ _ (by omega) (by omega)).mono ?_; rintro e w' ⟨rfl, rfl⟩; rw [H7.out]))
    all_goals go_wp2
    all_goals (go_meet; case rel => exact ⟨by (apply Has.congr; (focus ((repeat (first | (with_reducible assumption) | (with_reducible exact Has.new _ _ _) | (with_reducible exact Has.new1 _ _ _ _) | (with_reducible exact Has.new2 _ _ _ _ _) | (with_reducible refine Has.newAt ?_; (simp; done)) | (with_reducible apply Has.set) | (with_reducible apply Has.far; (case hn => first | assumption | (simp; done) | (intro e_; simp at e_; omega))) | (with_reducible apply Has.alloc) | (with_reducible apply Has.drewN) | (with_reducible apply Has.drew) | (with_reducible refine Has.keeps ?_ (by with_reducible assumption)))))); (first | rfl | (simp; done))), by (repeat (first | (with_reducible exact Upd.refl _ _) | (with_reducible assumption) | (with_reducible refine Upd.setCell ?_ (by first | (left; simp; done) | (right; go_size)) _) | (with_reducible refine Upd.alloc ?_ _) | (with_reducible refine Upd.drewN ?_ _) | (with_reducible refine Upd.drew ?_)))⟩)
  case rest =>
  obtain ⟨HC2, hU⟩ := hcut
  have K1 := K1.upd hU (by simpa using hC2)
  have HC := HC.upd hU (by simpa using nCC)
  have M := M.upd hU (by simpa using nmC) (by simpa using nbC)
  generalize wc = W3 at *
  have FX_ := (HC2).facts; simp only [blockFacts, listFacts, cellsAt, Nat.reduceAdd, and_true, true_and, and_assoc] at FX_
  have FC_ := FX_
  have FX_ := (HC).facts; simp only [blockFacts, listFacts, cellsAt, Nat.reduceAdd, and_true, true_and, and_assoc] at FX_
  go_upto_region 14 with (go_at_call 11; refine (rootsNew_bad M HBad.out).mono ?_; rintro e w' ⟨rfl, hk3⟩; have K1 := K1.trans hk3; have HC := HC.keeps hk3; have M := M.keeps hk3)
  clear FX_ FC_
  have FX_ := (HC).facts; simp only [blockFacts, listFacts, cellsAt, Nat.reduceAdd, and_true, true_and, and_assoc] at FX_
  go_upto_region 17 with (go_at_call 11; refine (rootsNew_c M HM.out HLe.out).mono ?_; rintro e w' ⟨R, S, rfl, hk4, hR, hS, HR, HS⟩; have K1 := K1.trans hk4; have HC := HC.keeps hk4; have M := M.keeps hk4)
  obtain ⟨Sn, hSn⟩ := Int.eq_ofNat_of_zero_le (show 0 ≤ s by omega)
  subst hSn
  obtain ⟨lk, hlk⟩ := Int.eq_ofNat_of_zero_le (show 0 ≤ 3 + p + (Sn : Int) by omega)
  have HS : Has w' S (stackOf m (1 : Nat) (lk : Int) (Sn : Int)) 143 := HS.congr (by unfold stackOf; congr 5)
  clear hlk FX_
  have HKa := Keeps.refl w'
  have ws1 := wrapR_ok ((Sn : Int) + qa) (by omega) (by omega)
  have X3 : w'.cell? ⟨C, 3, none⟩ = some (.int .i64 Sn) := HC.cell 3
  go_cut [21] (fun v wc => v = .int .i64 ((Sn : Int) + qa) ∧ Keeps w' wc)
  case first =>
    go_region_held3 (fun u => u.cell? ⟨C, 3, none⟩ = some (.int .i64 Sn)) (((repeat' (with_reducible apply And.intro)) <;> (apply Has.cellv; (focus ((repeat (first | (with_reducible assumption) | (with_reducible exact Has.new _ _ _) | (with_reducible exact Has.new1 _ _ _ _) | (with_reducible exact Has.new2 _ _ _ _ _) | (with_reducible refine Has.newAt ?_; (simp; done)) | (with_reducible apply Has.set) | (with_reducible apply Has.far; (case hn => first | assumption | (simp; done) | (intro e_; simp at e_; omega))) | (with_reducible apply Has.alloc) | (with_reducible apply Has.drewN) | (with_reducible apply Has.drew) | (with_reducible refine Has.keeps ?_ (by with_reducible assumption)))))); (first | (with_reducible assumption) | rfl | (simp; done) | fail))))
      ((go_at_call 10; refine (number_c _ _ _ (by omega) (by omega)).mono ?_; rintro e w' ⟨rfl, rfl⟩; rw [HA.out]))
    all_goals go_wp2
    all_goals (go_meet; case rel => exact ⟨rfl, by ((repeat' (first | (with_reducible exact Keeps.refl _) | (with_reducible assumption) | (with_reducible refine Keeps.drewN ?_ _) | (with_reducible refine Keeps.drew ?_) | (with_reducible refine Keeps.alloc ?_ _) | (with_reducible refine Keeps.setCell ?_ ?_ _) | (with_reducible refine Keeps.trans ?_ (After.keeps _)) | (with_reducible refine Keeps.trans ?_ (by with_reducible assumption)) | go_size)); (first | done | fail))⟩)
  case rest =>
  obtain ⟨rfl, hk6⟩ := hcut
  have K1 := K1.trans hk6
  have M := M.keeps hk6
  have HR := HR.keeps hk6
  have HS := HS.keeps hk6
  clear hk6 X3 HC
  generalize wc = W5 at *
  have HPK : Hid (∀ at_ : Int, (at_ < 0 ∨ (Sn : Int) ≤ at_) → ∀ w1, Keeps W5 w1 → Calls Tryz.prog 46 #[.pointer (some ⟨m, 0, none⟩), .int .i64 (crootI p k d Sn c b at_)] w1 fun e w' => e = .returned (.int .u64 0) ∧ w1 = w') := Lib.hid (fun at_ hat w1 hk => by
    have e : crootI p k d Sn c b at_ = -1 := by unfold crootI; exact atI_f (.inr hat)
    rw [e]
    exact mpeek_out (M.keeps hk) _ (by omega))
  obtain rfl | rfl : qb = 0 ∨ qb = 1 := by omega
  · have hat : (Sn : Int) + qa < 0 ∨ (Sn : Int) ≤ (Sn : Int) + qa := by omega
    have HAT := Lib.hid hat
    clear hat
    generalize (Sn : Int) + qa = at_ at *
    go_upto_region 20 with (first
      | (go_at_call 10; refine (number_c _ _ _ (by omega) (by omega)).mono ?_; rintro e w' ⟨rfl, rfl⟩; rw [HB.out]))
    go_upto_region 21 with (first
      | (go_at_call 12; refine (mkLook_no _ _ HR HAT.out).mono ?_; rintro e w' ⟨rfl, rfl⟩))
    go_upto_region 22 with (first
      | (go_at_call 13; refine (mkEnd_no _ _ HR HAT.out).mono ?_; rintro e w' ⟨rfl, rfl⟩))
    go_upto_region 23 with (first
      | (go_at_call 14; refine (back_no _ HR HS HAT.out).mono ?_; rintro e w' ⟨rfl, hk7⟩))
    have K7 : Keeps W5 w' := hk7
    have HRt := Lib.hid (rsRoot_c (o := 0) (at_) (HR.keeps K7) (fun w1 hk => HPK.out (at_) HAT.out w1 (K7.trans hk)) (by omega) (by omega))
    have HR2 := Lib.hid (fun (w8 : World) (hk8 : Keeps w' w8) => rsRoot_c (o := 0) (at_) (HR.keeps (K7.trans hk8)) (fun w1 hk => HPK.out (at_) HAT.out w1 ((K7.trans hk8).trans hk)) (by omega) (by omega))
    have HCt := Lib.hid (fun (w8 : World) (hk8 : Keeps W5 w8) => mcount (M.keeps hk8))
    clear HM HQ HA HB H7 HBad HLs HLe w1 w2 ws1 t1 HPK HAT
    go_wp2_with (first
      | (go_at_call 15; have _t := t0; refine HRt.out.mono ?_; rintro e w8 ⟨rfl, hk8⟩; clear t0)
      | (go_at_call 15; refine (HR2.out _ hk8).mono ?_; rintro e w9 ⟨rfl, hk9⟩)
      | (go_at_call 16; refine (HCt.out _ ((K7.trans hk8).trans hk9)).mono ?_; rintro e wz ⟨rfl, rfl⟩))
    go_ret
    exact ⟨rfl, K1.trans ((K7.trans hk8).trans hk9)⟩
  · have hat : -1 - qa < 0 ∨ (Sn : Int) ≤ -1 - qa := by omega
    have HAT := Lib.hid hat
    clear hat
    have ws2 := wrapR_ok (-1 - qa) (by omega) (by omega)
    go_upto_region 20 with (first
      | (go_at_call 10; refine (number_c _ _ _ (by omega) (by omega)).mono ?_; rintro e w' ⟨rfl, rfl⟩; first | rw [HB.out] | rw [HA.out]))
    go_upto_region 21 with (first
      | (go_at_call 12; refine (mkLook_no _ _ HR HAT.out).mono ?_; rintro e w' ⟨rfl, rfl⟩))
    go_upto_region 22 with (first
      | (go_at_call 13; refine (mkEnd_no _ _ HR HAT.out).mono ?_; rintro e w' ⟨rfl, rfl⟩))
    go_upto_region 23 with (first
      | (go_at_call 14; refine (back_no _ HR HS HAT.out).mono ?_; rintro e w' ⟨rfl, hk7⟩))
    have K7 : Keeps W5 w' := hk7
    have HRt := Lib.hid (rsRoot_c (o := 0) (-1 - qa) (HR.keeps K7) (fun w1 hk => HPK.out (-1 - qa) HAT.out w1 (K7.trans hk)) (by omega) (by omega))
    have HR2 := Lib.hid (fun (w8 : World) (hk8 : Keeps w' w8) => rsRoot_c (o := 0) (-1 - qa) (HR.keeps (K7.trans hk8)) (fun w1 hk => HPK.out (-1 - qa) HAT.out w1 ((K7.trans hk8).trans hk)) (by omega) (by omega))
    have HCt := Lib.hid (fun (w8 : World) (hk8 : Keeps W5 w8) => mcount (M.keeps hk8))
    clear HM HQ HA HB H7 HBad HLs HLe w1 w2 ws1 t1 HPK HAT
    go_wp2_with (first
      | (go_at_call 15; have _t := t0; refine HRt.out.mono ?_; rintro e w8 ⟨rfl, hk8⟩; clear t0)
      | (go_at_call 15; refine (HR2.out _ hk8).mono ?_; rintro e w9 ⟨rfl, hk9⟩)
      | (go_at_call 16; refine (HCt.out _ ((K7.trans hk8).trans hk9)).mono ?_; rintro e wz ⟨rfl, rfl⟩))
    go_ret
    exact ⟨rfl, K1.trans ((K7.trans hk8).trans hk9)⟩
end Go.Proofs.YtaecapjicphdkaaGreat
