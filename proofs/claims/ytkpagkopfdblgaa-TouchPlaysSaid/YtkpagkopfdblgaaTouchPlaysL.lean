/- TouchPlays, walked: whatever is done to words, the program and the document answer alike. -/
import Derived.Test.YtkpagkopfdblgaaTouchApartL
import Derived.Test.YtkpagkopfdblgaaR16U
namespace Go.Proofs.Ytkpagkopfdblgaa
set_option linter.unusedVariables false
set_option linter.unusedSimpArgs false
open Go Go.RowKit
set_option maxRecDepth 100000
set_option maxHeartbeats 4000000

theorem fillTo_out (l : List Int) (lk j : Nat) : ∀ k : Nat, (j < lk ∨ lk + k ≤ j) → (fillTo l lk k)[j]? = l[j]?
  | 0, _ => rfl
  | k + 1, h => by
    show ((fillTo l lk k).set (lk + k) ((k : Int) + 2))[j]? = _
    rw [List.getElem?_set_ne (by omega)]
    exact fillTo_out l lk j k (by omega)
theorem stFill_out (hd lk n j : Nat) (l : List Int) (h1 : j ≠ hd) (h2 : j < lk ∨ lk + n ≤ j) (hn : 1 ≤ n) : (stFill hd lk n l)[j]? = l[j]? := by
  unfold stFill
  rw [List.getElem?_set_ne (by omega), List.getElem?_set_ne (by omega)]
  exact fillTo_out l lk j n h2
def tA (kind o v to_ : Int) : Int := if kind = 7 then v else if kind = 8 then IntKind.u64.wrap (o + v) else if kind = 9 ∧ o = v then to_ else o
theorem tMem_at (kind : Int) {l : List Int} {i : Nat} {o : Int} (h : l[i]? = some o) (v to_ : Int) : (tMem kind l i o v to_)[i]? = some (tA kind o v to_) := by
  have hi := get_lt h
  unfold tMem tA
  split
  · rw [List.getElem?_set_self hi]
  · split
    · rw [List.getElem?_set_self hi]
    · split
      · rw [List.getElem?_set_self hi]
      · exact h
theorem wpAnyH_mono {P : Program} {md : Region.Mode} {ops : Array Oper} {Q : Exit → Act → World → Prop} {S S' : World → Prop} (hs : ∀ w, S' w → S w) :
    ∀ (fuel : Nat) (listed : Array Bool) (a : Act) (w : World), wpAnyH P md ops Q S' fuel listed a w → wpAnyH P md ops Q S fuel listed a w
  | 0, _, _, _, h => h
  | fuel + 1, _, _, _, h => ⟨h.1, fun i hi => wpOp_mono (fun a' w' h' => ⟨hs _ h'.1, wpAnyH_mono hs fuel _ a' w' h'.2⟩) (h.2 i hi)⟩
@[go_sem] theorem acc_field (a b o u : Int) (k : Bool) (w : World) : Sem.run Try.prog (Instr.field 56 (.agg #[.int .i64 a, .int .i64 b, .int .u64 o, .int .u64 u, .bool k]) 1) w = .ok (.int .i64 b) w := by kernel_rfl
theorem touchPlays_c (n : Int) (v : Value) (zs : List (List Int)) (w : World) (hr : ReadsF [.i64, .i64, .i64, .u64, .u64] w v zs) (hz5 : ∀ z ∈ zs, z.length = 5 ∧ ∀ (i : Nat) (k : IntKind) (n : Int), [IntKind.i64, .i64, .i64, .u64, .u64][i]? = some k → z[i]? = some n → (Lit.int k n).wf = true) :
    Calls Try.prog 11 #[.int .i64 n, v] w fun e w' => e = .returned (.bool true) ∧ Keeps w w' := by
  obtain ⟨a, cap, rfl, hr⟩ := hr
  have HR := Lib.hid hr
  have HZ := Lib.hid hz5
  clear hr hz5
  by_cases hl : 60 < zs.length
  · go_enter Try.func11, Try.ntmps11
    go_wp2_with (go_at_call 53; refine (touchFirst_c _).mono ?_; rintro e w' ⟨rfl, K⟩)
    go_ret
    exact ⟨rfl, by ((repeat' (first | (with_reducible exact Keeps.refl _) | (with_reducible assumption) | (with_reducible refine Keeps.drewN ?_ _) | (with_reducible refine Keeps.drew ?_) | (with_reducible refine Keeps.alloc ?_ _) | (with_reducible refine Keeps.setCell ?_ ?_ _) | (with_reducible refine Keeps.trans ?_ (After.keeps _)) | (with_reducible refine Keeps.trans ?_ (by with_reducible assumption)) | go_size)); (first | done | fail))⟩
  · have hl' : ¬ (60 : Int) < zs.length := by omega
    go_enter Try.func11, Try.ntmps11
    go_upto_region 8 with (first
      | (go_at_call 53; refine (touchFirst_c _).mono ?_; rintro e w' ⟨rfl, hk⟩; have K0 := (Keeps.refl w).trans hk)
      | (go_at_call 54; refine (config_c _ _).mono ?_; rintro e wc ⟨p, k, d, s, c, b, rfl, hcf, hk⟩; have hm := cfg_may' hcf; obtain ⟨⟨p1, p2⟩, ⟨k1, k2⟩, hd, ⟨s1, s2⟩, ⟨c1, c2⟩, bb1, bb2⟩ := hcf; have d1 : 8 ≤ d ∧ d ≤ 16 := (by omega); obtain ⟨d1, d2⟩ := d1; clear hd; have K0 := K0.trans hk; have hCw := K0.size; have HC := Has.new wc (cfgA p k d s c b) 84; have HM := Lib.hid hm; clear hm; have K0 := K0.alloc (.cells (cfgA p k d s c b) 84); have FX_ := (HC).facts; simp only [blockFacts, listFacts, cellsAt, Nat.reduceAdd, and_true, true_and, and_assoc] at FX_)
      | (go_at_call 55; refine (touchMade_c _ _ _ _ _ _ _ HM.out).mono ?_; rintro e w' ⟨m, bb, W, rfl, hk, hmm, hbb, hWW, M, HW⟩; have hmm := Nat.le_trans K0.size hmm; have hbb := Nat.le_trans K0.size hbb; have hWW := Nat.le_trans K0.size hWW; have K2 := K0.trans hk; have HC := HC.keeps hk))
    have hCW := HC.lt
    generalize wc.heap.size = C at *
    obtain ⟨N, hN⟩ : ∃ N : Nat, (lenI p k d s c b).toNat = N := ⟨_, rfl⟩
    obtain ⟨eN, eN2⟩ := lenI_bd HM.out
    have hNi : lenI p k d s c b = N := by omega
    obtain ⟨K, hK⟩ := Int.eq_ofNat_of_zero_le (show 0 ≤ k by omega)
    obtain ⟨Sn, hSn⟩ := Int.eq_ofNat_of_zero_le (show 0 ≤ s by omega)
    subst hK hSn
    obtain ⟨lk, hlk⟩ := Int.eq_ofNat_of_zero_le (show 0 ≤ 3 + p + (Sn : Int) + Sn by omega)
    obtain ⟨ls, hls⟩ := Int.eq_ofNat_of_zero_le (show 0 ≤ 3 + p + (Sn : Int) by omega)
    rw [hN] at M
    have FX_ := (HC).facts; simp only [blockFacts, listFacts, cellsAt, Nat.reduceAdd, and_true, true_and, and_assoc] at FX_
    have CC := r11New_c (w := w') HM.out hNi hlk.symm hls.symm
    go_upto_region 9 with (go_at_call 64; refine CC.mono ?_; rintro e w2 ⟨Wr, g, gb, Pl, Sp, E, rfl, hk2, ⟨hWr, hg, hgb, -, -⟩, -, HWr, -, -, RM⟩; clear CC)
    clear FX_
    clear FX_
    have ngbb : bb ≠ gb := by have := (M.lt).2; omega
    have hmm2 : w.heap.size ≤ m := by omega
    have hbb2 : w.heap.size ≤ bb := by omega
    have n1 : m ≠ C := (HC.ne M.hg (by decide)).symm
    have n2 : bb ≠ C := (HC.ne M.hb (by decide)).symm
    have hg : w.heap.size ≤ g := by omega
    have hgb : w.heap.size ≤ gb := by omega
    have K0 := K2.trans hk2
    clear K2
    have HC := HC.keeps hk2
    have M := M.keeps hk2
    have HW := HW.keeps hk2
    have n3 : m ≠ Wr := (HWr.ne M.hg (by decide)).symm
    have n4 : bb ≠ Wr := (HWr.ne M.hb (by decide)).symm
    have n5 : m ≠ g := (RM.hg.ne M.hg (by decide)).symm
    have n6 : bb ≠ g := (RM.hg.ne M.hb (by decide)).symm
    have n7 : m ≠ gb := (RM.hb.ne M.hg (by decide)).symm
    obtain ⟨base, hbase⟩ : ∃ q : Nat, q = lk + K := ⟨_, rfl⟩
    have hEq : Hid (∀ j : Nat, base ≤ j → (List.replicate N (0 : Int))[j]? = (stFill 1 ls Sn (stFill 0 lk K (List.replicate N 0)))[j]?) := Lib.hid (fun j hj => by
      rw [stFill_out _ _ _ _ _ (by omega) (by omega) (by omega), stFill_out _ _ _ _ _ (by omega) (by omega) (by omega)])
    generalize stFill 1 ls Sn (stFill 0 lk K (List.replicate N 0)) = lr0 at *
    generalize List.replicate N (0 : Int) = lm0 at *
    go_wp2
    go_loopw [10] (fun i wr => ∃ (q : Nat) (lm lr : List Int) (x : Acc), q ≤ zs.length ∧ i = .int .i64 q ∧ Has wr W (wordsOf m p K d Sn c b) 155 ∧ Mem wr m bb N lm q x ∧ Has wr Wr (rwOf p K d Sn c b g (pto Pl) (pto Sp) (pto E)) 118 ∧ RMem wr g gb N lr q ∧ Has wr C (cfgA p K d Sn c b) 84 ∧ Keeps w wr ∧ Hid (∀ j : Nat, base ≤ j → lm[j]? = lr[j]?)) (fun i _ => zs.length - (intOf i).toNat)
    case atStart => exact ⟨0, lm0, lr0, _, by omega, rfl, HW, M, HWr, RM, HC, K0, hEq⟩
    case round =>
      obtain ⟨q, lm, lr, x, hq, rfl, HW, M, HWr, RM, HC, K0, hEq⟩ := hrel
      by_cases hlt : q < zs.length
      · obtain ⟨bl, off, rfl, hb, hc⟩ := HR.out (by rintro rfl; simp at hlt)
        have hzl : zs[q].length = 5 := (HZ.out _ (List.getElem_mem hlt)).1
        obtain ⟨z0, z1, z2, z3, z4, hz⟩ : ∃ a b c d e, zs[q] = [a, b, c, d, e] := by
          match zs[q], hzl with
          | [a, b, c, d, e], _ => exact ⟨a, b, c, d, e, rfl⟩
        have hc0 := hc q _ (List.getElem?_eq_getElem hlt) 0 (.int .i64 z0) (by rw [hz]; rfl)
        have hc1 := hc q _ (List.getElem?_eq_getElem hlt) 1 (.int .i64 z1) (by rw [hz]; rfl)
        have hc2 := hc q _ (List.getElem?_eq_getElem hlt) 2 (.int .i64 z2) (by rw [hz]; rfl)
        have hc3 := hc q _ (List.getElem?_eq_getElem hlt) 3 (.int .u64 z3) (by rw [hz]; rfl)
        have hc4 := hc q _ (List.getElem?_eq_getElem hlt) 4 (.int .u64 z4) (by rw [hz]; rfl)
        rw [← K0.cell hb] at hc0 hc1 hc2 hc3 hc4
        have hc0 : wr.cell? ⟨bl, off + q * 5, none⟩ = some (.int .i64 z0) := hc0
        have hc1 : wr.cell? ⟨bl, off + q * 5 + 1, none⟩ = some (.int .i64 z1) := hc1
        have hc2 : wr.cell? ⟨bl, off + q * 5 + 2, none⟩ = some (.int .i64 z2) := hc2
        have hc3 : wr.cell? ⟨bl, off + q * 5 + 3, none⟩ = some (.int .u64 z3) := hc3
        have hc4 : wr.cell? ⟨bl, off + q * 5 + 4, none⟩ = some (.int .u64 z4) := hc4
        have hTw := K0.size
        have hbw := Nat.lt_of_lt_of_le hb hTw
        clear hc hz hzl
        go_upto_region 15 with fail
        have ltW := HW.lt
        have ltM1 := M.lt.1
        have ltM2 := M.lt.2
        have ltWr := HWr.lt
        have ltR1 := RM.lt.1
        have ltR2 := RM.lt.2
        have ltC := HC.lt
        have HD := Has.new wr #[.int .i64 z0, .int .i64 z1, .int .i64 z2, .int .u64 z3, .int .u64 z4] 105
        refine wp_named' (fun W3 hW3 => ?_)
        have HK3 : Keeps wr W3 := by rw [hW3]; ((repeat' (first | (with_reducible exact Keeps.refl _) | (with_reducible assumption) | (with_reducible refine Keeps.drewN ?_ _) | (with_reducible refine Keeps.drew ?_) | (with_reducible refine Keeps.alloc ?_ _) | (with_reducible refine Keeps.setCell ?_ ?_ _) | (with_reducible refine Keeps.trans ?_ (After.keeps _)) | (with_reducible refine Keeps.trans ?_ (by with_reducible assumption)) | go_size)); (first | done | fail))
        rw [← hW3] at HD
        have M := M.keeps HK3
        have HW := HW.keeps HK3
        have HWr := HWr.keeps HK3
        have RM := RM.keeps HK3
        have HC := HC.keeps HK3
        have K0 := K0.trans HK3
        clear hW3 HK3 hc0 hc1 hc2 hc3 hc4
        generalize wr.heap.size = T at *
        have bx := mod_bd z1 K (by omega)
        have bi := mod_bd z2 d (by omega)
        have FX_ := (HC).facts; simp only [blockFacts, listFacts, cellsAt, Nat.reduceAdd, and_true, true_and, and_assoc] at FX_
        have FC_ := FX_
        have FX_ := (HD).facts; simp only [blockFacts, listFacts, cellsAt, Nat.reduceAdd, and_true, true_and, and_assoc] at FX_
        have nCT : C ≠ T := by omega
        go_cut [] (fun wc => Has wc T #[.int .i64 z0, .int .i64 (z1 % K), .int .i64 (z2 % d), .int .u64 z3, .int .u64 z4] 105 ∧ Upd [T] W3 wc)
        case first =>
          go_region_law (go_simp; (go_at_call 15; refine (number_c _ _ _ (by omega) (by omega)).mono ?_; rintro e w' ⟨rfl, rfl⟩))
          all_goals go_wp2
          all_goals (go_meet; case rel => exact ⟨by (apply Has.congr; (focus ((repeat (first | (with_reducible assumption) | (with_reducible exact Has.new _ _ _) | (with_reducible exact Has.new1 _ _ _ _) | (with_reducible exact Has.new2 _ _ _ _ _) | (with_reducible refine Has.newAt ?_; (simp; done)) | (with_reducible apply Has.set) | (with_reducible apply Has.far; (case hn => first | assumption | (simp; done) | (intro e_; simp at e_; omega))) | (with_reducible apply Has.alloc) | (with_reducible apply Has.drewN) | (with_reducible apply Has.drew) | (with_reducible refine Has.keeps ?_ (by with_reducible assumption)))))); (first | rfl | (simp; done))), by (repeat (first | (with_reducible exact Upd.refl _ _) | (with_reducible assumption) | (with_reducible refine Upd.setCell ?_ (by first | (left; simp; done) | (right; go_size)) _) | (with_reducible refine Upd.alloc ?_ _) | (with_reducible refine Upd.drewN ?_ _) | (with_reducible refine Upd.drew ?_)))⟩)
        case rest =>
        obtain ⟨HD, hS⟩ := hcut
        generalize wc = W4 at *
        go_upto_region 16 with fail
        obtain ⟨x0, x1⟩ := bx
        obtain ⟨i0, i1⟩ := bi
        generalize z1 % K = xx at *
        generalize z2 % d = ii at *
        have nTW : W ∉ [T] := by simp; omega
        have HW := HW.upd hS nTW
        have M := M.upd hS (by simp; omega) (by simp; omega)
        have HWr := HWr.upd hS (by simp; omega)
        have RM := RM.upd hS (by simp; omega) (by simp; omega)
        have HC := HC.upd hS (by simp; omega)
        have K0 := K0.upd hS (by simp; omega)
        clear hS FX_ FC_
        obtain ⟨ex, ex0, ex1⟩ := wordI_in HM.out x0 x1 i0 i1
        obtain ⟨cx, hcx⟩ := Int.eq_ofNat_of_zero_le ex0
        have HX := Lib.hid hcx
        have hxd : 0 ≤ xx * d := Int.mul_nonneg x0 (by omega)
        have hcxb : base ≤ cx := by omega
        have hcxN : cx < N := by omega
        clear ex ex0 ex1 hcx hxd
        go_cut [12] (fun y wc => ∃ kd : Int, y = .int .i64 kd ∧ (kd = 6 ∨ kd = 7 ∨ kd = 8 ∨ kd = 9) ∧ Keeps W4 wc)
        case first =>
          have FX_ := (HD).facts; simp only [blockFacts, listFacts, cellsAt, Nat.reduceAdd, and_true, true_and, and_assoc] at FX_
          have bz := mod_bd z0 4 (by omega)
          obtain ⟨kz, hkz⟩ : ∃ kz, z0 % 4 = kz := ⟨_, rfl⟩
          rw [hkz] at bz
          have HKZ := Lib.hid hkz
          clear hkz
          have hkc : kz = 0 ∨ kz = 1 ∨ kz = 2 ∨ kz = 3 := by omega
          clear bz
          rcases hkc with rfl | rfl | rfl | rfl
          · go_wp2_with (go_at_call 15; refine (number_c _ _ _ (by omega) (by omega)).mono ?_; rintro e w' ⟨rfl, rfl⟩; rw [HKZ.out])
            go_meet; case rel => exact ⟨6, rfl, by simp, by ((repeat' (first | (with_reducible exact Keeps.refl _) | (with_reducible assumption) | (with_reducible refine Keeps.drewN ?_ _) | (with_reducible refine Keeps.drew ?_) | (with_reducible refine Keeps.alloc ?_ _) | (with_reducible refine Keeps.setCell ?_ ?_ _) | (with_reducible refine Keeps.trans ?_ (After.keeps _)) | (with_reducible refine Keeps.trans ?_ (by with_reducible assumption)) | go_size)); (first | done | fail))⟩
          · go_wp2_with (go_at_call 15; refine (number_c _ _ _ (by omega) (by omega)).mono ?_; rintro e w' ⟨rfl, rfl⟩; rw [HKZ.out])
            go_meet; case rel => exact ⟨7, rfl, by simp, by ((repeat' (first | (with_reducible exact Keeps.refl _) | (with_reducible assumption) | (with_reducible refine Keeps.drewN ?_ _) | (with_reducible refine Keeps.drew ?_) | (with_reducible refine Keeps.alloc ?_ _) | (with_reducible refine Keeps.setCell ?_ ?_ _) | (with_reducible refine Keeps.trans ?_ (After.keeps _)) | (with_reducible refine Keeps.trans ?_ (by with_reducible assumption)) | go_size)); (first | done | fail))⟩
          · go_wp2_with (go_at_call 15; refine (number_c _ _ _ (by omega) (by omega)).mono ?_; rintro e w' ⟨rfl, rfl⟩; rw [HKZ.out])
            go_meet; case rel => exact ⟨8, rfl, by simp, by ((repeat' (first | (with_reducible exact Keeps.refl _) | (with_reducible assumption) | (with_reducible refine Keeps.drewN ?_ _) | (with_reducible refine Keeps.drew ?_) | (with_reducible refine Keeps.alloc ?_ _) | (with_reducible refine Keeps.setCell ?_ ?_ _) | (with_reducible refine Keeps.trans ?_ (After.keeps _)) | (with_reducible refine Keeps.trans ?_ (by with_reducible assumption)) | go_size)); (first | done | fail))⟩
          · go_wp2_with (go_at_call 15; refine (number_c _ _ _ (by omega) (by omega)).mono ?_; rintro e w' ⟨rfl, rfl⟩; rw [HKZ.out])
            go_meet; case rel => exact ⟨9, rfl, by simp, by ((repeat' (first | (with_reducible exact Keeps.refl _) | (with_reducible assumption) | (with_reducible refine Keeps.drewN ?_ _) | (with_reducible refine Keeps.drew ?_) | (with_reducible refine Keeps.alloc ?_ _) | (with_reducible refine Keeps.setCell ?_ ?_ _) | (with_reducible refine Keeps.trans ?_ (After.keeps _)) | (with_reducible refine Keeps.trans ?_ (by with_reducible assumption)) | go_size)); (first | done | fail))⟩
        case rest =>
          obtain ⟨kd, rfl, hkd, HK4⟩ := hcut
          have HKD := Lib.hid hkd
          have HD := HD.keeps HK4
          have HW := HW.keeps HK4
          have M := M.keeps HK4
          have HWr := HWr.keeps HK4
          have RM := RM.keeps HK4
          have HC := HC.keeps HK4
          have K0 := K0.trans HK4
          clear HK4 hkd
          have hlN := M.len
          have HO : Hid (lm[cx]? = some (lm.getD cx 0)) := Lib.hid (getD_some' (by omega))
          have HO2 : Hid (lr[cx]? = some (lm.getD cx 0)) := Lib.hid (by rw [← hEq.out cx hcxb]; exact HO.out)
          generalize lm.getD cx 0 = oo at *
          have FX_ := (HD).facts; simp only [blockFacts, listFacts, cellsAt, Nat.reduceAdd, and_true, true_and, and_assoc] at FX_
          have nS : ∀ B : Nat, B < T → W ≠ B → True := fun _ _ _ => trivial
          go_upto_region 18 with (go_at_call 59; refine (tdoes_c (i := cx) _ _ HW M HKD.out HX.out HO.out (by omega)).mono ?_; rintro e w' ⟨rfl, hu, HW, x3, M, hx3⟩; have HD := HD.upd hu (by simp; omega))
          have hlt2 : T < w'.heap.size := HD.lt
          have HR := Has.new w' #[.int .i64 0, .int .i64 0, .int .i64 0, .int .i64 0, .int .i64 0, .int .i64 0, .int .i64 (tN kd oo z3), .int .u64 (tV kd oo)] 101
          refine wp_named' (fun W5 hW5 => ?_)
          have HK5 : Keeps w' W5 := by rw [hW5]; ((repeat' (first | (with_reducible exact Keeps.refl _) | (with_reducible assumption) | (with_reducible refine Keeps.drewN ?_ _) | (with_reducible refine Keeps.drew ?_) | (with_reducible refine Keeps.alloc ?_ _) | (with_reducible refine Keeps.setCell ?_ ?_ _) | (with_reducible refine Keeps.trans ?_ (After.keeps _)) | (with_reducible refine Keeps.trans ?_ (by with_reducible assumption)) | go_size)); (first | done | fail))
          rw [← hW5] at HR
          have HD := HD.keeps HK5
          have HW := HW.keeps HK5
          have M := M.keeps HK5
          have HWr := (HWr.upd hu (by simp; omega)).keeps HK5
          have RM := (RM.upd hu (by simp; omega) (by simp; omega)).keeps HK5
          have HC := (HC.upd hu (by simp; omega)).keeps HK5
          have K0 := (K0.upd hu (by simp; exact ⟨hmm2, hbb2⟩)).trans HK5
          have hRw : w'.heap.size ≠ T := by omega
          have szR : w'.heap.size < W5.heap.size := HR.lt
          clear hW5 HK5 FX_ hu
          generalize w'.heap.size = R at *
          have FX_ := (HC).facts; simp only [blockFacts, listFacts, cellsAt, Nat.reduceAdd, and_true, true_and, and_assoc] at FX_
          have FC_ := FX_
          have FX_ := (HD).facts; simp only [blockFacts, listFacts, cellsAt, Nat.reduceAdd, and_true, true_and, and_assoc] at FX_
          go_upto_region 19 with (go_at_call 65; refine (rword_c _ _ _ _ _ _ _ _ _).mono ?_; rintro e w' ⟨rfl, hk6⟩; rw [HX.out])
          refine wp_named' (fun W6 hW6 => ?_)
          have HK6 : Keeps W5 W6 := by rw [hW6]; exact hk6
          have HD := HD.keeps HK6
          have HR := HR.keeps HK6
          have HW := HW.keeps HK6
          have M := M.keeps HK6
          have HWr := HWr.keeps HK6
          have RM := RM.keeps HK6
          have HC := HC.keeps HK6
          have K0 := K0.trans HK6
          clear hW6 HK6 hk6 FX_ FC_
          have HMA : Hid ((tMem kd lm cx oo z3 z4)[cx]? = some (tA kd oo z3 z4)) := Lib.hid (tMem_at kd HO.out z3 z4)
          have HRA : Hid ((tMem kd lr cx oo z3 z4)[cx]? = some (tA kd oo z3 z4)) := Lib.hid (tMem_at kd HO2.out z3 z4)
          have hEq2 : Hid (∀ j : Nat, base ≤ j → (tMem kd lm cx oo z3 z4)[j]? = (tMem kd lr cx oo z3 z4)[j]?) := Lib.hid (fun j hj => by
            by_cases e : cx = j
            · subst e; rw [HMA.out, HRA.out]
            · rw [tMem_ne _ _ e, tMem_ne _ _ e]; exact hEq.out j hj)
          have hq60 : (q : Int) < 4611686018427387903 := by omega
          have CT := Lib.hid (fun (y : World) (hW : Has y Wr (rwOf p K d Sn c b g (pto Pl) (pto Sp) (pto E)) 118) (M : RMem y g gb N lr q) => rtouch_c (v := z3) (to_ := z4) xx ii hW M HKD.out HX.out HO2.out hq60)
          generalize tMem kd lm cx oo z3 z4 = lm2 at *
          generalize tMem kd lr cx oo z3 z4 = lr2 at *
          generalize tA kd oo z3 z4 = va at *
          generalize tN kd oo z3 = rn at *
          generalize tV kd oo = rv at *
          have S_0 : ∀ y : World, Has y R #[.int .i64 0, .int .i64 0, .int .i64 0, .int .i64 0, .int .i64 0, .int .i64 0, .int .i64 rn, .int .u64 rv] 101 → Has y T #[.int .i64 z0, .int .i64 xx, .int .i64 ii, .int .u64 z3, .int .u64 z4] 105 → Has y Wr (rwOf p K d Sn c b g (pto Pl) (pto Sp) (pto E)) 118 → y.cell? ⟨g, 0, none⟩ = some (.slice (some ⟨gb, 0, none⟩) N N) →
              (((((((((((y.cell? ⟨R, 0, none⟩ = some (.int .i64 0) ∧ y.cell? ⟨R, 1, none⟩ = some (.int .i64 0)) ∧ y.cell? ⟨R, 2, none⟩ = some (.int .i64 0)) ∧ y.cell? ⟨R, 3, none⟩ = some (.int .i64 0)) ∧ y.cell? ⟨R, 4, none⟩ = some (.int .i64 0)) ∧ y.cell? ⟨R, 5, none⟩ = some (.int .i64 0)) ∧ y.cell? ⟨R, 6, none⟩ = some (.int .i64 rn)) ∧ y.cell? ⟨R, 7, none⟩ = some (.int .u64 rv)) ∧ y.cell? ⟨T, 1, none⟩ = some (.int .i64 xx)) ∧ y.cell? ⟨T, 2, none⟩ = some (.int .i64 ii)) ∧ y.cell? ⟨T, 3, none⟩ = some (.int .u64 z3)) ∧ y.cell? ⟨T, 4, none⟩ = some (.int .u64 z4)) ∧ y.cell? ⟨Wr, 6, none⟩ = some (pto g) ∧ y.cell? ⟨g, 0, none⟩ = some (.slice (some ⟨gb, 0, none⟩) N N) := fun y h1 h2 h3 h4 =>
            ⟨⟨⟨⟨⟨⟨⟨⟨⟨⟨⟨⟨h1.cell 0, h1.cell 1⟩, h1.cell 2⟩, h1.cell 3⟩, h1.cell 4⟩, h1.cell 5⟩, h1.cell 6⟩, h1.cell 7⟩, h2.cell 1⟩, h2.cell 2⟩, h2.cell 3⟩, h2.cell 4⟩, h3.cell 6, h4⟩
          refine wp_region_held_drew (S := fun y => (((((((((((y.cell? ⟨R, 0, none⟩ = some (.int .i64 0) ∧ y.cell? ⟨R, 1, none⟩ = some (.int .i64 0)) ∧ y.cell? ⟨R, 2, none⟩ = some (.int .i64 0)) ∧ y.cell? ⟨R, 3, none⟩ = some (.int .i64 0)) ∧ y.cell? ⟨R, 4, none⟩ = some (.int .i64 0)) ∧ y.cell? ⟨R, 5, none⟩ = some (.int .i64 0)) ∧ y.cell? ⟨R, 6, none⟩ = some (.int .i64 rn)) ∧ y.cell? ⟨R, 7, none⟩ = some (.int .u64 rv)) ∧ y.cell? ⟨T, 1, none⟩ = some (.int .i64 xx)) ∧ y.cell? ⟨T, 2, none⟩ = some (.int .i64 ii)) ∧ y.cell? ⟨T, 3, none⟩ = some (.int .u64 z3)) ∧ y.cell? ⟨T, 4, none⟩ = some (.int .u64 z4)) ∧ y.cell? ⟨Wr, 6, none⟩ = some (pto g) ∧ y.cell? ⟨g, 0, none⟩ = some (.slice (some ⟨gb, 0, none⟩) N N)) (by kernel_rfl) (S_0 _ HR.drew HD.drew HWr.drew (RM.hg.drew.cell 0)) (fun hHeld => ?_)
          have S_1 : ∀ y : World, Has y R #[.int .i64 0, .int .i64 0, .int .i64 0, .int .i64 0, .int .i64 0, .int .i64 0, .int .i64 rn, .int .u64 rv] 101 → Has y T #[.int .i64 z0, .int .i64 xx, .int .i64 ii, .int .u64 z3, .int .u64 z4] 105 → Has y Wr (rwOf p K d Sn c b g (pto Pl) (pto Sp) (pto E)) 118 → RMem y g gb N lr2 ((q : Int) + 1) →
              (((((((((((((y.cell? ⟨R, 0, none⟩ = some (.int .i64 0) ∧ y.cell? ⟨R, 1, none⟩ = some (.int .i64 0)) ∧ y.cell? ⟨R, 2, none⟩ = some (.int .i64 0)) ∧ y.cell? ⟨R, 3, none⟩ = some (.int .i64 0)) ∧ y.cell? ⟨R, 4, none⟩ = some (.int .i64 0)) ∧ y.cell? ⟨R, 5, none⟩ = some (.int .i64 0)) ∧ y.cell? ⟨R, 6, none⟩ = some (.int .i64 rn)) ∧ y.cell? ⟨R, 7, none⟩ = some (.int .u64 rv)) ∧ y.cell? ⟨T, 1, none⟩ = some (.int .i64 xx)) ∧ y.cell? ⟨T, 2, none⟩ = some (.int .i64 ii)) ∧ y.cell? ⟨T, 3, none⟩ = some (.int .u64 z3)) ∧ y.cell? ⟨T, 4, none⟩ = some (.int .u64 z4)) ∧ y.cell? ⟨Wr, 6, none⟩ = some (pto g) ∧ y.cell? ⟨g, 0, none⟩ = some (.slice (some ⟨gb, 0, none⟩) N N)) ∧ y.cell? ⟨g, 1, none⟩ = some (.int .i64 ((q : Int) + 1)) ∧ y.cell? ⟨gb, cx, none⟩ = some (.int .u64 va)) := fun y h1 h2 h3 h4 => ⟨S_0 y h1 h2 h3 (h4.hg.cell 0), h4.hg.cell 1, by rw [h4.hb.cell]; exact u64s_at HRA.out⟩
          have RM0 := RM.keeps ((Keeps.refl W6).drew)
          clear S_0
          refine wpAnyH_take (i := 0) (oi := { dst := some 82, op := Go.Op.move (Go.Operand.tmp 14), type := 4, pos := "law.go:74", after := #[], guard := none }) (v := ?yv0) rfl (by kernel_rfl) (by kernel_rfl) (by kernel_rfl) (fun _ _ _ h => h) (Or.inl ⟨by rfl, ?yh0⟩) hHeld ?yr0
          case yh0 => intro y hSw; (try dsimp only at hSw); go_split_ands; go_simp; (try with_reducible rfl)
          (try simp only [Act.put, List.setIfInBounds_toArray, List.set_cons_zero, List.set_cons_succ])
          refine wpAnyH_take (i := 1) (oi := { dst := some 83, op := Go.Op.unOp Go.UnOp.not 4 (Go.Operand.tmp 82), type := 4, pos := "law.go:74", after := #[{ on := 0, ground := Go.Ground.data }], guard := none }) (v := ?yv1) rfl (by kernel_rfl) (by kernel_rfl) (by kernel_rfl) (fun _ _ _ h => h) (Or.inl ⟨by rfl, ?yh1⟩) hHeld ?yr1
          case yh1 => intro y hSw; (try dsimp only at hSw); go_split_ands; go_simp; (try with_reducible rfl)
          (try simp only [Act.put, List.setIfInBounds_toArray, List.set_cons_zero, List.set_cons_succ])
          refine wpAnyH_take (i := 2) (oi := { dst := some 84, op := Go.Op.move (Go.Operand.tmp 83), type := 4, pos := "law.go:74", after := #[{ on := 1, ground := Go.Ground.data }], guard := none }) (v := ?yv2) rfl (by kernel_rfl) (by kernel_rfl) (by kernel_rfl) (fun _ _ _ h => h) (Or.inl ⟨by rfl, ?yh2⟩) hHeld ?yr2
          case yh2 => intro y hSw; (try dsimp only at hSw); go_split_ands; go_simp; (try with_reducible rfl)
          (try simp only [Act.put, List.setIfInBounds_toArray, List.set_cons_zero, List.set_cons_succ])
          refine wpAnyH_take (i := 3) (oi := { dst := some 85, op := Go.Op.load 101 (Go.Operand.tmp 13), type := 101, pos := "law.go:74", after := #[{ on := 2, ground := Go.Ground.guard }], guard := some (2, false) }) (v := ?yv3) rfl (by kernel_rfl) (by kernel_rfl) (by kernel_rfl) (fun _ _ _ h => h) (Or.inl ⟨by rfl, ?yh3⟩) hHeld ?yr3
          case yh3 => intro y hSw; (try dsimp only at hSw); go_split_ands; go_simp; (try with_reducible rfl)
          (try simp only [Act.put, List.setIfInBounds_toArray, List.set_cons_zero, List.set_cons_succ])
          refine wpAnyH_take (i := 4) (oi := { dst := some 86, op := Go.Op.move (Go.Operand.tmp 9), type := 112, pos := "law.go:74", after := #[{ on := 2, ground := Go.Ground.guard }], guard := some (2, false) }) (v := ?yv4) rfl (by kernel_rfl) (by kernel_rfl) (by kernel_rfl) (fun _ _ _ h => h) (Or.inl ⟨by rfl, ?yh4⟩) hHeld ?yr4
          case yh4 => intro y hSw; (try dsimp only at hSw); go_split_ands; go_simp; (try with_reducible rfl)
          (try simp only [Act.put, List.setIfInBounds_toArray, List.set_cons_zero, List.set_cons_succ])
          refine wpAnyH_take (i := 5) (oi := { dst := some 87, op := Go.Op.move (Go.Operand.tmp 12), type := 3, pos := "law.go:74", after := #[{ on := 2, ground := Go.Ground.guard }], guard := some (2, false) }) (v := ?yv5) rfl (by kernel_rfl) (by kernel_rfl) (by kernel_rfl) (fun _ _ _ h => h) (Or.inl ⟨by rfl, ?yh5⟩) hHeld ?yr5
          case yh5 => intro y hSw; (try dsimp only at hSw); go_split_ands; go_simp; (try with_reducible rfl)
          (try simp only [Act.put, List.setIfInBounds_toArray, List.set_cons_zero, List.set_cons_succ])
          refine wpAnyH_take (i := 6) (oi := { dst := some 88, op := Go.Op.fieldAddr 105 (Go.Operand.tmp 11) 1, type := 0, pos := "law.go:74", after := #[{ on := 2, ground := Go.Ground.guard }], guard := some (2, false) }) (v := ?yv6) rfl (by kernel_rfl) (by kernel_rfl) (by kernel_rfl) (fun _ _ _ h => h) (Or.inl ⟨by rfl, ?yh6⟩) hHeld ?yr6
          case yh6 => intro y hSw; (try dsimp only at hSw); go_split_ands; go_simp; (try with_reducible rfl)
          (try simp only [Act.put, List.setIfInBounds_toArray, List.set_cons_zero, List.set_cons_succ])
          refine wpAnyH_take (i := 7) (oi := { dst := some 89, op := Go.Op.load 3 (Go.Operand.tmp 88), type := 3, pos := "law.go:74", after := #[{ on := 6, ground := Go.Ground.data }, { on := 2, ground := Go.Ground.guard }], guard := some (2, false) }) (v := ?yv7) rfl (by kernel_rfl) (by kernel_rfl) (by kernel_rfl) (fun _ _ _ h => h) (Or.inl ⟨by rfl, ?yh7⟩) hHeld ?yr7
          case yh7 => intro y hSw; (try dsimp only at hSw); go_split_ands; go_simp; (try with_reducible rfl)
          (try simp only [Act.put, List.setIfInBounds_toArray, List.set_cons_zero, List.set_cons_succ])
          refine wpAnyH_take (i := 8) (oi := { dst := some 90, op := Go.Op.fieldAddr 105 (Go.Operand.tmp 11) 2, type := 0, pos := "law.go:74", after := #[{ on := 2, ground := Go.Ground.guard }], guard := some (2, false) }) (v := ?yv8) rfl (by kernel_rfl) (by kernel_rfl) (by kernel_rfl) (fun _ _ _ h => h) (Or.inl ⟨by rfl, ?yh8⟩) hHeld ?yr8
          case yh8 => intro y hSw; (try dsimp only at hSw); go_split_ands; go_simp; (try with_reducible rfl)
          (try simp only [Act.put, List.setIfInBounds_toArray, List.set_cons_zero, List.set_cons_succ])
          refine wpAnyH_take (i := 9) (oi := { dst := some 91, op := Go.Op.load 3 (Go.Operand.tmp 90), type := 3, pos := "law.go:74", after := #[{ on := 8, ground := Go.Ground.data }, { on := 2, ground := Go.Ground.guard }], guard := some (2, false) }) (v := ?yv9) rfl (by kernel_rfl) (by kernel_rfl) (by kernel_rfl) (fun _ _ _ h => h) (Or.inl ⟨by rfl, ?yh9⟩) hHeld ?yr9
          case yh9 => intro y hSw; (try dsimp only at hSw); go_split_ands; go_simp; (try with_reducible rfl)
          (try simp only [Act.put, List.setIfInBounds_toArray, List.set_cons_zero, List.set_cons_succ])
          refine wpAnyH_take (i := 10) (oi := { dst := some 92, op := Go.Op.fieldAddr 105 (Go.Operand.tmp 11) 3, type := 0, pos := "law.go:74", after := #[{ on := 2, ground := Go.Ground.guard }], guard := some (2, false) }) (v := ?yv10) rfl (by kernel_rfl) (by kernel_rfl) (by kernel_rfl) (fun _ _ _ h => h) (Or.inl ⟨by rfl, ?yh10⟩) hHeld ?yr10
          case yh10 => intro y hSw; (try dsimp only at hSw); go_split_ands; go_simp; (try with_reducible rfl)
          (try simp only [Act.put, List.setIfInBounds_toArray, List.set_cons_zero, List.set_cons_succ])
          refine wpAnyH_take (i := 11) (oi := { dst := some 93, op := Go.Op.load 29 (Go.Operand.tmp 92), type := 29, pos := "law.go:74", after := #[{ on := 10, ground := Go.Ground.data }, { on := 2, ground := Go.Ground.guard }], guard := some (2, false) }) (v := ?yv11) rfl (by kernel_rfl) (by kernel_rfl) (by kernel_rfl) (fun _ _ _ h => h) (Or.inl ⟨by rfl, ?yh11⟩) hHeld ?yr11
          case yh11 => intro y hSw; (try dsimp only at hSw); go_split_ands; go_simp; (try with_reducible rfl)
          (try simp only [Act.put, List.setIfInBounds_toArray, List.set_cons_zero, List.set_cons_succ])
          refine wpAnyH_take (i := 12) (oi := { dst := some 94, op := Go.Op.fieldAddr 105 (Go.Operand.tmp 11) 4, type := 0, pos := "law.go:74", after := #[{ on := 2, ground := Go.Ground.guard }], guard := some (2, false) }) (v := ?yv12) rfl (by kernel_rfl) (by kernel_rfl) (by kernel_rfl) (fun _ _ _ h => h) (Or.inl ⟨by rfl, ?yh12⟩) hHeld ?yr12
          case yh12 => intro y hSw; (try dsimp only at hSw); go_split_ands; go_simp; (try with_reducible rfl)
          (try simp only [Act.put, List.setIfInBounds_toArray, List.set_cons_zero, List.set_cons_succ])
          refine wpAnyH_take (i := 13) (oi := { dst := some 95, op := Go.Op.load 29 (Go.Operand.tmp 94), type := 29, pos := "law.go:74", after := #[{ on := 12, ground := Go.Ground.data }, { on := 2, ground := Go.Ground.guard }], guard := some (2, false) }) (v := ?yv13) rfl (by kernel_rfl) (by kernel_rfl) (by kernel_rfl) (fun _ _ _ h => h) (Or.inl ⟨by rfl, ?yh13⟩) hHeld ?yr13
          case yh13 => intro y hSw; (try dsimp only at hSw); go_split_ands; go_simp; (try with_reducible rfl)
          (try simp only [Act.put, List.setIfInBounds_toArray, List.set_cons_zero, List.set_cons_succ])
          refine wpAnyH_ready (rs := [14]) (by kernel_rfl) (by simp) ?_
          refine AllReadyH.cons (o := { dst := some 96, op := Go.Op.call { callee := Go.Callee.value (Go.Operand.func 66), args := #[Go.Operand.tmp 86, Go.Operand.tmp 87, Go.Operand.tmp 89, Go.Operand.tmp 91, Go.Operand.tmp 93, Go.Operand.tmp 95], argTypes := #[112, 3, 3, 3, 29, 29] }, type := 101, pos := "law.go:74", after := #[{ on := 4, ground := Go.Ground.data }, { on := 5, ground := Go.Ground.data }, { on := 7, ground := Go.Ground.data }, { on := 9, ground := Go.Ground.data }, { on := 11, ground := Go.Ground.data }, { on := 13, ground := Go.Ground.data }, { on := 2, ground := Go.Ground.chain }, { on := 2, ground := Go.Ground.guard }], guard := some (2, false) }) rfl (fun K' hK => ?_) AllReadyH.nil
          go_simp
          (go_at_call 66; refine (CT.out _ HWr.drew (RM.keeps (by ((repeat' (first | (with_reducible exact Keeps.refl _) | (with_reducible assumption) | (with_reducible refine Keeps.drewN ?_ _) | (with_reducible refine Keeps.drew ?_) | (with_reducible refine Keeps.alloc ?_ _) | (with_reducible refine Keeps.setCell ?_ ?_ _) | (with_reducible refine Keeps.trans ?_ (After.keeps _)) | (with_reducible refine Keeps.trans ?_ (by with_reducible assumption)) | go_size)); (first | done | fail))))).mono ?_; rintro e W7 ⟨rfl, hu7, RM⟩)
          have nRg : R ∉ [g, gb] := by simp; omega
          have nTg : T ∉ [g, gb] := by simp; omega
          have nWg : Wr ∉ [g, gb] := by simp; exact ⟨HWr.drew.ne RM0.hg (by decide), HWr.drew.ne RM0.hb (by decide)⟩
          have nCg : C ∉ [g, gb] := by simp; exact ⟨HC.drew.ne RM0.hg (by decide), HC.drew.ne RM0.hb (by decide)⟩
          have nwg : W ∉ [g, gb] := by simp; exact ⟨HW.drew.ne RM0.hg (by decide), HW.drew.ne RM0.hb (by decide)⟩
          have HR := HR.drew.upd hu7 nRg
          have HD := HD.drew.upd hu7 nTg
          have HWr := HWr.drew.upd hu7 nWg
          have HC := HC.drew.upd hu7 nCg
          have HW := HW.drew.upd hu7 nwg
          have M := M.drew.upd hu7 (by simp; omega) (by simp; omega)
          have K0 := (K0.drew).upd hu7 (by simp; omega)
          have hHeld2 := S_1 _ HR HD HWr RM
          refine hK.out _ _ hHeld2.1 (fun _ => ?_)
          clear hK K' hHeld
          refine wpAnyH_mono (S' := fun y => ((((((((((((y.cell? ⟨R, 0, none⟩ = some (.int .i64 0) ∧ y.cell? ⟨R, 1, none⟩ = some (.int .i64 0)) ∧ y.cell? ⟨R, 2, none⟩ = some (.int .i64 0)) ∧ y.cell? ⟨R, 3, none⟩ = some (.int .i64 0)) ∧ y.cell? ⟨R, 4, none⟩ = some (.int .i64 0)) ∧ y.cell? ⟨R, 5, none⟩ = some (.int .i64 0)) ∧ y.cell? ⟨R, 6, none⟩ = some (.int .i64 rn)) ∧ y.cell? ⟨R, 7, none⟩ = some (.int .u64 rv)) ∧ y.cell? ⟨T, 1, none⟩ = some (.int .i64 xx)) ∧ y.cell? ⟨T, 2, none⟩ = some (.int .i64 ii)) ∧ y.cell? ⟨T, 3, none⟩ = some (.int .u64 z3)) ∧ y.cell? ⟨T, 4, none⟩ = some (.int .u64 z4)) ∧ y.cell? ⟨Wr, 6, none⟩ = some (pto g) ∧ y.cell? ⟨g, 0, none⟩ = some (.slice (some ⟨gb, 0, none⟩) N N)) ∧ y.cell? ⟨g, 1, none⟩ = some (.int .i64 ((q : Int) + 1)) ∧ y.cell? ⟨gb, cx, none⟩ = some (.int .u64 va)) (fun y h => h.1) _ _ _ _ ?_
          have hHeld := hHeld2
          (try simp only [Act.put, List.setIfInBounds_toArray, List.set_cons_zero, List.set_cons_succ])
          refine wpAnyH_take (i := 15) (oi := { dst := some 97, op := Go.Op.binOp Go.BinOp.neq 101 (Go.Operand.tmp 85) (Go.Operand.tmp 96) 101, type := 4, pos := "law.go:74", after := #[{ on := 3, ground := Go.Ground.data }, { on := 14, ground := Go.Ground.data }, { on := 2, ground := Go.Ground.guard }], guard := some (2, false) }) (v := ?yv15) rfl (by kernel_rfl) (by kernel_rfl) (by kernel_rfl) (fun _ _ _ h => h) (Or.inl ⟨by rfl, ?yh15⟩) hHeld ?yr15
          case yh15 => intro y hSw; (try dsimp only at hSw); go_split_ands; go_simp; (try with_reducible rfl)
          (try simp only [Act.put, List.setIfInBounds_toArray, List.set_cons_zero, List.set_cons_succ])
          refine wpAnyH_take (i := 16) (oi := { dst := some 98, op := Go.Op.pick (Go.Operand.tmp 84) (Go.Operand.const (Go.Value.bool true)) (Go.Operand.tmp 97), type := 4, pos := "law.go:74", after := #[{ on := 2, ground := Go.Ground.data }, { on := 15, ground := Go.Ground.data }], guard := none }) (v := ?yv16) rfl (by kernel_rfl) (by kernel_rfl) (by kernel_rfl) (fun _ _ _ h => h) (Or.inl ⟨by rfl, ?yh16⟩) hHeld ?yr16
          case yh16 => intro y hSw; (try dsimp only at hSw); go_split_ands; go_simp; (try with_reducible rfl)
          (try simp only [Act.put, List.setIfInBounds_toArray, List.set_cons_zero, List.set_cons_succ])
          refine wpAnyH_take (i := 17) (oi := { dst := some 99, op := Go.Op.move (Go.Operand.tmp 98), type := 4, pos := "law.go:74", after := #[{ on := 16, ground := Go.Ground.data }, { on := 14, ground := Go.Ground.chain }], guard := none }) (v := ?yv17) rfl (by kernel_rfl) (by kernel_rfl) (by kernel_rfl) (fun _ _ _ h => h) (Or.inl ⟨by rfl, ?yh17⟩) hHeld ?yr17
          case yh17 => intro y hSw; (try dsimp only at hSw); go_split_ands; go_simp; (try with_reducible rfl)
          (try simp only [Act.put, List.setIfInBounds_toArray, List.set_cons_zero, List.set_cons_succ])
          refine wpAnyH_take (i := 18) (oi := { dst := some 100, op := Go.Op.move (Go.Operand.tmp 7), type := 50, pos := "law.go:74", after := #[{ on := 17, ground := Go.Ground.guard }], guard := some (17, false) }) (v := ?yv18) rfl (by kernel_rfl) (by kernel_rfl) (by kernel_rfl) (fun _ _ _ h => h) (Or.inl ⟨by rfl, ?yh18⟩) hHeld ?yr18
          case yh18 => intro y hSw; (try dsimp only at hSw); go_split_ands; go_simp; (try with_reducible rfl)
          (try simp only [Act.put, List.setIfInBounds_toArray, List.set_cons_zero, List.set_cons_succ])
          refine wpAnyH_take (i := 19) (oi := { dst := some 101, op := Go.Op.move (Go.Operand.tmp 15), type := 3, pos := "law.go:74", after := #[{ on := 17, ground := Go.Ground.guard }], guard := some (17, false) }) (v := ?yv19) rfl (by kernel_rfl) (by kernel_rfl) (by kernel_rfl) (fun _ _ _ h => h) (Or.inl ⟨by rfl, ?yh19⟩) hHeld ?yr19
          case yh19 => intro y hSw; (try dsimp only at hSw); go_split_ands; go_simp; (try with_reducible rfl)
          (try simp only [Act.put, List.setIfInBounds_toArray, List.set_cons_zero, List.set_cons_succ])
          refine wpAnyH_take (i := 21) (oi := { dst := some 103, op := Go.Op.move (Go.Operand.tmp 9), type := 112, pos := "law.go:74", after := #[{ on := 17, ground := Go.Ground.guard }], guard := some (17, false) }) (v := ?yv21) rfl (by kernel_rfl) (by kernel_rfl) (by kernel_rfl) (fun _ _ _ h => h) (Or.inl ⟨by rfl, ?yh21⟩) hHeld ?yr21
          case yh21 => intro y hSw; (try dsimp only at hSw); go_split_ands; go_simp; (try with_reducible rfl)
          (try simp only [Act.put, List.setIfInBounds_toArray, List.set_cons_zero, List.set_cons_succ])
          refine wpAnyH_take (i := 22) (oi := { dst := some 104, op := Go.Op.nilCheck (Go.Operand.tmp 103), type := 0, pos := "law.go:74", after := #[{ on := 21, ground := Go.Ground.data }, { on := 17, ground := Go.Ground.guard }], guard := some (17, false) }) (v := ?yv22) rfl (by kernel_rfl) (by kernel_rfl) (by kernel_rfl) (fun _ _ _ h => h) (Or.inl ⟨by rfl, ?yh22⟩) hHeld ?yr22
          case yh22 => intro y hSw; (try dsimp only at hSw); go_split_ands; go_simp; (try with_reducible rfl)
          (try simp only [Act.put, List.setIfInBounds_toArray, List.set_cons_zero, List.set_cons_succ])
          refine wpAnyH_take (i := 23) (oi := { dst := some 105, op := Go.Op.fieldAddr 118 (Go.Operand.tmp 104) 1, type := 0, pos := "law.go:74", after := #[{ on := 22, ground := Go.Ground.data }, { on := 17, ground := Go.Ground.guard }], guard := some (17, false) }) (v := ?yv23) rfl (by kernel_rfl) (by kernel_rfl) (by kernel_rfl) (fun _ _ _ h => h) (Or.inl ⟨by rfl, ?yh23⟩) hHeld ?yr23
          case yh23 => intro y hSw; (try dsimp only at hSw); go_split_ands; go_simp; (try with_reducible rfl)
          (try simp only [Act.put, List.setIfInBounds_toArray, List.set_cons_zero, List.set_cons_succ])
          refine wpAnyH_take (i := 24) (oi := { dst := some 106, op := Go.Op.load 58 (Go.Operand.tmp 105), type := 58, pos := "law.go:74", after := #[{ on := 23, ground := Go.Ground.data }, { on := 17, ground := Go.Ground.guard }], guard := some (17, false) }) (v := ?yv24) rfl (by kernel_rfl) (by kernel_rfl) (by kernel_rfl) (fun _ _ _ h => h) (Or.inl ⟨by rfl, ?yh24⟩) hHeld ?yr24
          case yh24 => intro y hSw; (try dsimp only at hSw); go_split_ands; go_simp; (try with_reducible rfl)
          (try simp only [Act.put, List.setIfInBounds_toArray, List.set_cons_zero, List.set_cons_succ])
          refine wpAnyH_take (i := 25) (oi := { dst := some 107, op := Go.Op.nilCheck (Go.Operand.tmp 106), type := 0, pos := "law.go:74", after := #[{ on := 24, ground := Go.Ground.data }, { on := 17, ground := Go.Ground.guard }], guard := some (17, false) }) (v := ?yv25) rfl (by kernel_rfl) (by kernel_rfl) (by kernel_rfl) (fun _ _ _ h => h) (Or.inl ⟨by rfl, ?yh25⟩) hHeld ?yr25
          case yh25 => intro y hSw; (try dsimp only at hSw); go_split_ands; go_simp; (try with_reducible rfl)
          (try simp only [Act.put, List.setIfInBounds_toArray, List.set_cons_zero, List.set_cons_succ])
          refine wpAnyH_take (i := 26) (oi := { dst := some 108, op := Go.Op.fieldAddr 63 (Go.Operand.tmp 107) 0, type := 0, pos := "law.go:74", after := #[{ on := 25, ground := Go.Ground.data }, { on := 17, ground := Go.Ground.guard }], guard := some (17, false) }) (v := ?yv26) rfl (by kernel_rfl) (by kernel_rfl) (by kernel_rfl) (fun _ _ _ h => h) (Or.inl ⟨by rfl, ?yh26⟩) hHeld ?yr26
          case yh26 => intro y hSw; (try dsimp only at hSw); go_split_ands; go_simp; (try with_reducible rfl)
          (try simp only [Act.put, List.setIfInBounds_toArray, List.set_cons_zero, List.set_cons_succ])
          refine wpAnyH_take (i := 27) (oi := { dst := some 109, op := Go.Op.load 27 (Go.Operand.tmp 108), type := 27, pos := "law.go:74", after := #[{ on := 26, ground := Go.Ground.data }, { on := 17, ground := Go.Ground.guard }], guard := some (17, false) }) (v := ?yv27) rfl (by kernel_rfl) (by kernel_rfl) (by kernel_rfl) (fun _ _ _ h => h) (Or.inl ⟨by rfl, ?yh27⟩) hHeld ?yr27
          case yh27 => intro y hSw; (try dsimp only at hSw); go_split_ands; go_simp; (try with_reducible rfl)
          (try simp only [Act.put, List.setIfInBounds_toArray, List.set_cons_zero, List.set_cons_succ])
          refine wpAnyH_take (i := 28) (oi := { dst := some 110, op := Go.Op.move (Go.Operand.tmp 15), type := 3, pos := "law.go:74", after := #[{ on := 17, ground := Go.Ground.guard }], guard := some (17, false) }) (v := ?yv28) rfl (by kernel_rfl) (by kernel_rfl) (by kernel_rfl) (fun _ _ _ h => h) (Or.inl ⟨by rfl, ?yh28⟩) hHeld ?yr28
          case yh28 => intro y hSw; (try dsimp only at hSw); go_split_ands; go_simp; (try with_reducible rfl)
          (try simp only [Act.put, List.setIfInBounds_toArray, List.set_cons_zero, List.set_cons_succ])
          refine wpAnyH_take (i := 29) (oi := { dst := some 111, op := Go.Op.indexAddr 27 (Go.Operand.tmp 109) (Go.Operand.tmp 110), type := 0, pos := "law.go:74", after := #[{ on := 27, ground := Go.Ground.data }, { on := 28, ground := Go.Ground.data }, { on := 17, ground := Go.Ground.guard }], guard := some (17, false) }) (v := ?yv29) rfl (by kernel_rfl) (by kernel_rfl) (by kernel_rfl) (fun _ _ _ h => h) (Or.inl ⟨by rfl, ?yh29⟩) hHeld ?yr29
          case yh29 => intro y hSw; (try dsimp only at hSw); go_split_ands; go_simp; (try with_reducible rfl)
          (try simp only [Act.put, List.setIfInBounds_toArray, List.set_cons_zero, List.set_cons_succ])
          refine wpAnyH_take (i := 30) (oi := { dst := some 112, op := Go.Op.load 29 (Go.Operand.tmp 111), type := 29, pos := "law.go:74", after := #[{ on := 29, ground := Go.Ground.data }, { on := 17, ground := Go.Ground.guard }], guard := some (17, false) }) (v := ?yv30) rfl (by kernel_rfl) (by kernel_rfl) (by kernel_rfl) (fun _ _ _ h => h) (Or.inl ⟨by rfl, ?yh30⟩) hHeld ?yr30
          case yh30 => intro y hSw; (try dsimp only at hSw); go_split_ands; go_simp; (try with_reducible rfl)
          (try simp only [Act.put, List.setIfInBounds_toArray, List.set_cons_zero, List.set_cons_succ])
          refine wpAnyH_ready (rs := [20]) (by kernel_rfl) (by simp) ?_
          refine AllReadyH.cons (o := { dst := some 102, op := Go.Op.call { callee := Go.Callee.value (Go.Operand.func 43), args := #[Go.Operand.tmp 100, Go.Operand.tmp 101], argTypes := #[50, 3] }, type := 29, pos := "law.go:74", after := #[{ on := 18, ground := Go.Ground.data }, { on := 19, ground := Go.Ground.data }, { on := 17, ground := Go.Ground.chain }, { on := 17, ground := Go.Ground.guard }], guard := some (17, false) }) rfl (fun K' hK => ?_) AllReadyH.nil
          go_simp
          (go_at_call 43; refine (mpeek_in M cx HMA.out).mono ?_; rintro e w' ⟨rfl, rfl⟩)
          refine hK.out _ _ hHeld (fun _ => ?_)
          clear hK K'
          (try simp only [Act.put, List.setIfInBounds_toArray, List.set_cons_zero, List.set_cons_succ])
          refine wpAnyH_take (i := 31) (oi := { dst := some 113, op := Go.Op.binOp Go.BinOp.neq 29 (Go.Operand.tmp 102) (Go.Operand.tmp 112) 29, type := 4, pos := "law.go:74", after := #[{ on := 20, ground := Go.Ground.data }, { on := 30, ground := Go.Ground.data }, { on := 17, ground := Go.Ground.guard }], guard := some (17, false) }) (v := ?yv31) rfl (by kernel_rfl) (by kernel_rfl) (by kernel_rfl) (fun _ _ _ h => h) (Or.inl ⟨by rfl, ?yh31⟩) hHeld ?yr31
          case yh31 => intro y hSw; (try dsimp only at hSw); go_split_ands; go_simp; (try with_reducible rfl)
          (try simp only [Act.put, List.setIfInBounds_toArray, List.set_cons_zero, List.set_cons_succ])
          refine wpAnyH_take (i := 32) (oi := { dst := some 114, op := Go.Op.pick (Go.Operand.tmp 99) (Go.Operand.const (Go.Value.bool true)) (Go.Operand.tmp 113), type := 4, pos := "law.go:74", after := #[{ on := 17, ground := Go.Ground.data }, { on := 31, ground := Go.Ground.data }], guard := none }) (v := ?yv32) rfl (by kernel_rfl) (by kernel_rfl) (by kernel_rfl) (fun _ _ _ h => h) (Or.inl ⟨by rfl, ?yh32⟩) hHeld ?yr32
          case yh32 => intro y hSw; (try dsimp only at hSw); go_split_ands; go_simp; (try with_reducible rfl)
          (try simp only [Act.put, List.setIfInBounds_toArray, List.set_cons_zero, List.set_cons_succ])
          refine wpAnyH_take (i := 33) (oi := { dst := some 115, op := Go.Op.move (Go.Operand.tmp 114), type := 4, pos := "law.go:74", after := #[{ on := 32, ground := Go.Ground.data }, { on := 20, ground := Go.Ground.chain }], guard := none }) (v := ?yv33) rfl (by kernel_rfl) (by kernel_rfl) (by kernel_rfl) (fun _ _ _ h => h) (Or.inl ⟨by rfl, ?yh33⟩) hHeld ?yr33
          case yh33 => intro y hSw; (try dsimp only at hSw); go_split_ands; go_simp; (try with_reducible rfl)
          (try simp only [Act.put, List.setIfInBounds_toArray, List.set_cons_zero, List.set_cons_succ])
          refine wpAnyH_take (i := 34) (oi := { dst := some 116, op := Go.Op.move (Go.Operand.tmp 7), type := 50, pos := "law.go:74", after := #[{ on := 33, ground := Go.Ground.guard }], guard := some (33, false) }) (v := ?yv34) rfl (by kernel_rfl) (by kernel_rfl) (by kernel_rfl) (fun _ _ _ h => h) (Or.inl ⟨by rfl, ?yh34⟩) hHeld ?yr34
          case yh34 => intro y hSw; (try dsimp only at hSw); go_split_ands; go_simp; (try with_reducible rfl)
          (try simp only [Act.put, List.setIfInBounds_toArray, List.set_cons_zero, List.set_cons_succ])
          refine wpAnyH_take (i := 36) (oi := { dst := some 118, op := Go.Op.move (Go.Operand.tmp 9), type := 112, pos := "law.go:74", after := #[{ on := 33, ground := Go.Ground.guard }], guard := some (33, false) }) (v := ?yv36) rfl (by kernel_rfl) (by kernel_rfl) (by kernel_rfl) (fun _ _ _ h => h) (Or.inl ⟨by rfl, ?yh36⟩) hHeld ?yr36
          case yh36 => intro y hSw; (try dsimp only at hSw); go_split_ands; go_simp; (try with_reducible rfl)
          (try simp only [Act.put, List.setIfInBounds_toArray, List.set_cons_zero, List.set_cons_succ])
          refine wpAnyH_take (i := 37) (oi := { dst := some 119, op := Go.Op.nilCheck (Go.Operand.tmp 118), type := 0, pos := "law.go:74", after := #[{ on := 36, ground := Go.Ground.data }, { on := 33, ground := Go.Ground.guard }], guard := some (33, false) }) (v := ?yv37) rfl (by kernel_rfl) (by kernel_rfl) (by kernel_rfl) (fun _ _ _ h => h) (Or.inl ⟨by rfl, ?yh37⟩) hHeld ?yr37
          case yh37 => intro y hSw; (try dsimp only at hSw); go_split_ands; go_simp; (try with_reducible rfl)
          (try simp only [Act.put, List.setIfInBounds_toArray, List.set_cons_zero, List.set_cons_succ])
          refine wpAnyH_take (i := 38) (oi := { dst := some 120, op := Go.Op.fieldAddr 118 (Go.Operand.tmp 119) 1, type := 0, pos := "law.go:74", after := #[{ on := 37, ground := Go.Ground.data }, { on := 33, ground := Go.Ground.guard }], guard := some (33, false) }) (v := ?yv38) rfl (by kernel_rfl) (by kernel_rfl) (by kernel_rfl) (fun _ _ _ h => h) (Or.inl ⟨by rfl, ?yh38⟩) hHeld ?yr38
          case yh38 => intro y hSw; (try dsimp only at hSw); go_split_ands; go_simp; (try with_reducible rfl)
          (try simp only [Act.put, List.setIfInBounds_toArray, List.set_cons_zero, List.set_cons_succ])
          refine wpAnyH_take (i := 39) (oi := { dst := some 121, op := Go.Op.load 58 (Go.Operand.tmp 120), type := 58, pos := "law.go:74", after := #[{ on := 38, ground := Go.Ground.data }, { on := 33, ground := Go.Ground.guard }], guard := some (33, false) }) (v := ?yv39) rfl (by kernel_rfl) (by kernel_rfl) (by kernel_rfl) (fun _ _ _ h => h) (Or.inl ⟨by rfl, ?yh39⟩) hHeld ?yr39
          case yh39 => intro y hSw; (try dsimp only at hSw); go_split_ands; go_simp; (try with_reducible rfl)
          (try simp only [Act.put, List.setIfInBounds_toArray, List.set_cons_zero, List.set_cons_succ])
          refine wpAnyH_take (i := 40) (oi := { dst := some 122, op := Go.Op.nilCheck (Go.Operand.tmp 121), type := 0, pos := "law.go:74", after := #[{ on := 39, ground := Go.Ground.data }, { on := 33, ground := Go.Ground.guard }], guard := some (33, false) }) (v := ?yv40) rfl (by kernel_rfl) (by kernel_rfl) (by kernel_rfl) (fun _ _ _ h => h) (Or.inl ⟨by rfl, ?yh40⟩) hHeld ?yr40
          case yh40 => intro y hSw; (try dsimp only at hSw); go_split_ands; go_simp; (try with_reducible rfl)
          (try simp only [Act.put, List.setIfInBounds_toArray, List.set_cons_zero, List.set_cons_succ])
          refine wpAnyH_take (i := 41) (oi := { dst := some 123, op := Go.Op.fieldAddr 63 (Go.Operand.tmp 122) 1, type := 0, pos := "law.go:74", after := #[{ on := 40, ground := Go.Ground.data }, { on := 33, ground := Go.Ground.guard }], guard := some (33, false) }) (v := ?yv41) rfl (by kernel_rfl) (by kernel_rfl) (by kernel_rfl) (fun _ _ _ h => h) (Or.inl ⟨by rfl, ?yh41⟩) hHeld ?yr41
          case yh41 => intro y hSw; (try dsimp only at hSw); go_split_ands; go_simp; (try with_reducible rfl)
          (try simp only [Act.put, List.setIfInBounds_toArray, List.set_cons_zero, List.set_cons_succ])
          refine wpAnyH_take (i := 42) (oi := { dst := some 124, op := Go.Op.load 3 (Go.Operand.tmp 123), type := 3, pos := "law.go:74", after := #[{ on := 41, ground := Go.Ground.data }, { on := 33, ground := Go.Ground.guard }], guard := some (33, false) }) (v := ?yv42) rfl (by kernel_rfl) (by kernel_rfl) (by kernel_rfl) (fun _ _ _ h => h) (Or.inl ⟨by rfl, ?yh42⟩) hHeld ?yr42
          case yh42 => intro y hSw; (try dsimp only at hSw); go_split_ands; go_simp; (try with_reducible rfl)
          (try simp only [Act.put, List.setIfInBounds_toArray, List.set_cons_zero, List.set_cons_succ])
          refine wpAnyH_ready (rs := [35]) (by kernel_rfl) (by simp) ?_
          refine AllReadyH.cons (o := { dst := some 117, op := Go.Op.call { callee := Go.Callee.value (Go.Operand.func 45), args := #[Go.Operand.tmp 116], argTypes := #[50] }, type := 3, pos := "law.go:74", after := #[{ on := 34, ground := Go.Ground.data }, { on := 33, ground := Go.Ground.chain }, { on := 33, ground := Go.Ground.guard }], guard := some (33, false) }) rfl (fun K' hK => ?_) AllReadyH.nil
          go_simp
          (go_at_call 45; refine (mcount M).mono ?_; rintro e w' ⟨rfl, rfl⟩)
          refine hK.out _ _ hHeld (fun _ => ?_)
          clear hK K'
          (try simp only [Act.put, List.setIfInBounds_toArray, List.set_cons_zero, List.set_cons_succ])
          refine wpAnyH_take (i := 43) (oi := { dst := some 125, op := Go.Op.binOp Go.BinOp.neq 3 (Go.Operand.tmp 117) (Go.Operand.tmp 124) 3, type := 4, pos := "law.go:74", after := #[{ on := 35, ground := Go.Ground.data }, { on := 42, ground := Go.Ground.data }, { on := 33, ground := Go.Ground.guard }], guard := some (33, false) }) (v := ?yv43) rfl (by kernel_rfl) (by kernel_rfl) (by kernel_rfl) (fun _ _ _ h => h) (Or.inl ⟨by rfl, ?yh43⟩) hHeld ?yr43
          case yh43 => intro y hSw; (try dsimp only at hSw); go_split_ands; go_simp; (try with_reducible rfl)
          (try simp only [Act.put, List.setIfInBounds_toArray, List.set_cons_zero, List.set_cons_succ])
          refine wpAnyH_take (i := 44) (oi := { dst := some 126, op := Go.Op.pick (Go.Operand.tmp 115) (Go.Operand.const (Go.Value.bool true)) (Go.Operand.tmp 125), type := 4, pos := "law.go:74", after := #[{ on := 33, ground := Go.Ground.data }, { on := 43, ground := Go.Ground.data }], guard := none }) (v := ?yv44) rfl (by kernel_rfl) (by kernel_rfl) (by kernel_rfl) (fun _ _ _ h => h) (Or.inl ⟨by rfl, ?yh44⟩) hHeld ?yr44
          case yh44 => intro y hSw; (try dsimp only at hSw); go_split_ands; go_simp; (try with_reducible rfl)
          (try simp only [Act.put, List.setIfInBounds_toArray, List.set_cons_zero, List.set_cons_succ])
          refine wpAnyH_take (i := 45) (oi := { dst := some 127, op := Go.Op.move (Go.Operand.tmp 126), type := 4, pos := "law.go:74", after := #[{ on := 44, ground := Go.Ground.data }, { on := 35, ground := Go.Ground.chain }], guard := none }) (v := ?yv45) rfl (by kernel_rfl) (by kernel_rfl) (by kernel_rfl) (fun _ _ _ h => h) (Or.inl ⟨by rfl, ?yh45⟩) hHeld ?yr45
          case yh45 => intro y hSw; (try dsimp only at hSw); go_split_ands; go_simp; (try with_reducible rfl)
          (try simp only [Act.put, List.setIfInBounds_toArray, List.set_cons_zero, List.set_cons_succ])
          refine wpAnyH_take (i := 46) (oi := { dst := some 128, op := Go.Op.move (Go.Operand.tmp 7), type := 50, pos := "law.go:74", after := #[{ on := 45, ground := Go.Ground.guard }], guard := some (45, false) }) (v := ?yv46) rfl (by kernel_rfl) (by kernel_rfl) (by kernel_rfl) (fun _ _ _ h => h) (Or.inl ⟨by rfl, ?yh46⟩) hHeld ?yr46
          case yh46 => intro y hSw; (try dsimp only at hSw); go_split_ands; go_simp; (try with_reducible rfl)
          (try simp only [Act.put, List.setIfInBounds_toArray, List.set_cons_zero, List.set_cons_succ])
          refine wpAnyH_take (i := 49) (oi := { dst := some 131, op := Go.Op.move (Go.Operand.tmp 15), type := 3, pos := "law.go:74", after := #[{ on := 45, ground := Go.Ground.guard }], guard := some (45, false) }) (v := ?yv49) rfl (by kernel_rfl) (by kernel_rfl) (by kernel_rfl) (fun _ _ _ h => h) (Or.inl ⟨by rfl, ?yh49⟩) hHeld ?yr49
          case yh49 => intro y hSw; (try dsimp only at hSw); go_split_ands; go_simp; (try with_reducible rfl)
          (try simp only [Act.put, List.setIfInBounds_toArray, List.set_cons_zero, List.set_cons_succ])
          refine wpAnyH_ready (rs := [47]) (by kernel_rfl) (by simp) ?_
          refine AllReadyH.cons (o := { dst := some 129, op := Go.Op.call { callee := Go.Callee.value (Go.Operand.func 33), args := #[Go.Operand.tmp 128], argTypes := #[50] }, type := 56, pos := "law.go:74", after := #[{ on := 46, ground := Go.Ground.data }, { on := 45, ground := Go.Ground.chain }, { on := 45, ground := Go.Ground.guard }], guard := some (45, false) }) rfl (fun K' hK => ?_) AllReadyH.nil
          go_simp
          (go_at_call 33; refine (mlast M).mono ?_; rintro e W8 ⟨rfl, hk8⟩)
          have HR := HR.keeps hk8
          have HD := HD.keeps hk8
          have HWr := HWr.keeps hk8
          have RM := RM.keeps hk8
          refine hK.out _ _ (S_1 _ HR HD HWr RM) (fun _ => ?_)
          clear hK K' hHeld
          have hHeld := S_1 _ HR HD HWr RM
          have HC := HC.keeps hk8
          have HW := HW.keeps hk8
          have M := M.keeps hk8
          have K0 := K0.trans hk8
          (try simp only [Act.put, List.setIfInBounds_toArray, List.set_cons_zero, List.set_cons_succ])
          refine wpAnyH_take (i := 48) (oi := { dst := some 130, op := Go.Op.field 56 (Go.Operand.tmp 129) 1, type := 3, pos := "law.go:74", after := #[{ on := 47, ground := Go.Ground.data }, { on := 45, ground := Go.Ground.guard }], guard := some (45, false) }) (v := ?yv48) rfl (by kernel_rfl) (by kernel_rfl) (by kernel_rfl) (fun _ _ _ h => h) (Or.inl ⟨by rfl, ?yh48⟩) hHeld ?yr48
          case yh48 => intro y hSw; (try dsimp only at hSw); go_split_ands; go_simp; (try with_reducible rfl)
          (try simp only [Act.put, List.setIfInBounds_toArray, List.set_cons_zero, List.set_cons_succ])
          refine wpAnyH_take (i := 50) (oi := { dst := some 132, op := Go.Op.binOp Go.BinOp.neq 3 (Go.Operand.tmp 130) (Go.Operand.tmp 131) 3, type := 4, pos := "law.go:74", after := #[{ on := 48, ground := Go.Ground.data }, { on := 49, ground := Go.Ground.data }, { on := 45, ground := Go.Ground.guard }], guard := some (45, false) }) (v := ?yv50) rfl (by kernel_rfl) (by kernel_rfl) (by kernel_rfl) (fun _ _ _ h => h) (Or.inl ⟨by rfl, ?yh50⟩) hHeld ?yr50
          case yh50 => intro y hSw; (try dsimp only at hSw); go_split_ands; go_simp; (try with_reducible rfl)
          (try simp only [Act.put, List.setIfInBounds_toArray, List.set_cons_zero, List.set_cons_succ])
          refine wpAnyH_take (i := 51) (oi := { dst := some 133, op := Go.Op.pick (Go.Operand.tmp 127) (Go.Operand.const (Go.Value.bool true)) (Go.Operand.tmp 132), type := 4, pos := "law.go:74", after := #[{ on := 45, ground := Go.Ground.data }, { on := 50, ground := Go.Ground.data }], guard := none }) (v := ?yv51) rfl (by kernel_rfl) (by kernel_rfl) (by kernel_rfl) (fun _ _ _ h => h) (Or.inl ⟨by rfl, ?yh51⟩) hHeld ?yr51
          case yh51 => intro y hSw; (try dsimp only at hSw); go_split_ands; go_simp; (try with_reducible rfl)
          (try simp only [Act.put, List.setIfInBounds_toArray, List.set_cons_zero, List.set_cons_succ])
          refine wpAnyH_done (by kernel_rfl) ?_ _
          clear hHeld S_1
          go_wp2
          go_roundw
          case rel =>
            refine ⟨q + 1, lm2, lr2, x3, by omega, by go_num, HW, ?_, HWr, ?_, HC, K0, hEq2⟩
            · rw [show (((q + 1 : Nat) : Int)) = (q : Int) + 1 by omega]; exact M
            · rw [show (((q + 1 : Nat) : Int)) = (q : Int) + 1 by omega]; exact RM
          case measure => simp [intOf]; omega
      · obtain rfl : q = zs.length := by omega
        go_wp2
        go_ret
        exact ⟨rfl, by ((repeat' (first | (with_reducible exact Keeps.refl _) | (with_reducible assumption) | (with_reducible refine Keeps.drewN ?_ _) | (with_reducible refine Keeps.drew ?_) | (with_reducible refine Keeps.alloc ?_ _) | (with_reducible refine Keeps.setCell ?_ ?_ _) | (with_reducible refine Keeps.trans ?_ (After.keeps _)) | (with_reducible refine Keeps.trans ?_ (by with_reducible assumption)) | go_size)); (first | done | fail))⟩
end Go.Proofs.Ytkpagkopfdblgaa
