/- The law TouchApart, walked. -/
import Derived.Test.YtkpagkopfdblgaaTouchF
import Derived.Test.YtkpagkopfdblgaaConfW
import Derived.Test.YtkpagkopfdblgaaReads3
import Derived.LoopTactic
namespace Go.Proofs.Ytkpagkopfdblgaa
set_option linter.unusedVariables false
set_option linter.unusedSimpArgs false
open Go Go.RowKit
set_option maxRecDepth 100000
attribute [local go_sem ↓] Go.wp_at_zero Go.wp_at_succ
set_option maxHeartbeats 4000000

theorem cfg_may' {p k d s c b : Int} (h : (1 ≤ p ∧ p ≤ 4) ∧ (1 ≤ k ∧ k ≤ 8) ∧ (d = 8 ∨ d = 16) ∧ (1 ≤ s ∧ s ≤ 4) ∧ (0 ≤ c ∧ c ≤ 3) ∧ 1 ≤ b ∧ b ≤ 3) : mayB p k d s c b = true := by
  refine mayB_true.2 ⟨?_, ?_, ?_, ?_, ?_, ?_, ?_⟩ <;> omega
theorem word_inj {d x y i j : Int} (hd : 0 < d) (i0 : 0 ≤ i) (i1 : i < d) (j0 : 0 ≤ j) (j1 : j < d) (h : x * d + i = y * d + j) : x = y ∧ i = j := by
  rcases Int.lt_trichotomy x y with hlt | heq | hlt
  · have h1 : (x + 1) * d ≤ y * d := Int.mul_le_mul_of_nonneg_right (by omega) (by omega)
    rw [Int.add_mul] at h1
    omega
  · subst heq; exact ⟨rfl, by omega⟩
  · have h1 : (y + 1) * d ≤ x * d := Int.mul_le_mul_of_nonneg_right (by omega) (by omega)
    rw [Int.add_mul] at h1
    omega
theorem tMem_len (kind : Int) (l : List Int) (i : Nat) (o v to_ : Int) : (tMem kind l i o v to_).length = l.length := by
  unfold tMem; split
  · simp
  · split
    · simp
    · split <;> simp
theorem tMem_ne (kind : Int) (l : List Int) {i j : Nat} (h : i ≠ j) (o v to_ : Int) : (tMem kind l i o v to_)[j]? = l[j]? := by
  unfold tMem; split
  · rw [List.getElem?_set_ne h]
  · split
    · rw [List.getElem?_set_ne h]
    · split
      · rw [List.getElem?_set_ne h]
      · rfl
theorem getD_some' {l : List Int} {i : Nat} (h : i < l.length) : l[i]? = some (l.getD i 0) := by
  rw [List.getD_eq_getElem?_getD, List.getElem?_eq_getElem h]; rfl
theorem touchApart_c (n : Int) (v : Value) (zs : List (List Int)) (a0 a1 b0 b1 : Int) (w : World) (hr : ReadsF [.i64, .i64, .i64, .u64, .u64] w v zs) (hz5 : ∀ z ∈ zs, z.length = 5 ∧ ∀ (i : Nat) (k : IntKind) (n : Int), [IntKind.i64, .i64, .i64, .u64, .u64][i]? = some k → z[i]? = some n → (Lit.int k n).wf = true) :
    Calls Try.prog 9 #[.int .i64 n, v, .agg #[.int .i64 a0, .int .i64 a1], .agg #[.int .i64 b0, .int .i64 b1]] w fun e w' => e = .returned (.bool true) ∧ Keeps w w' := by
  obtain ⟨a, cap, rfl, hr⟩ := hr
  have HR := Lib.hid hr
  have HZ := Lib.hid hz5
  clear hr hz5
  by_cases hl : 20 < zs.length
  · go_enter Try.func9, Try.ntmps9
    go_wp2_with (go_at_call 53; refine (touchFirst_c _).mono ?_; rintro e w' ⟨rfl, K⟩)
    go_ret
    exact ⟨rfl, by ((repeat' (first | (with_reducible exact Keeps.refl _) | (with_reducible assumption) | (with_reducible refine Keeps.drewN ?_ _) | (with_reducible refine Keeps.drew ?_) | (with_reducible refine Keeps.alloc ?_ _) | (with_reducible refine Keeps.setCell ?_ ?_ _) | (with_reducible refine Keeps.trans ?_ (After.keeps _)) | (with_reducible refine Keeps.trans ?_ (by with_reducible assumption)) | go_size)); (first | done | fail))⟩
  · have hl' : ¬ (20 : Int) < zs.length := by omega
    go_enter Try.func9, Try.ntmps9
    go_wp2_with (first
      | (go_at_call 53; refine (touchFirst_c _).mono ?_; rintro e w' ⟨rfl, hk⟩; have HA := ((Has.new w #[.int .i64 a0, .int .i64 a1] 97).alloc (.cells #[.int .i64 b0, .int .i64 b1] 97)).keeps hk; have HB := (Has.new1 w (.cells #[.int .i64 a0, .int .i64 a1] 97) #[.int .i64 b0, .int .i64 b1] 97).keeps hk; have K0 := (((Keeps.refl w).alloc (.cells #[.int .i64 a0, .int .i64 a1] 97)).alloc (.cells #[.int .i64 b0, .int .i64 b1] 97)).trans hk)
      | (go_at_call 54; refine (config_c _ _).mono ?_; rintro e wc ⟨p, k, d, s, c, b, rfl, hcf, hk⟩; have hm := cfg_may' hcf; obtain ⟨⟨p1, p2⟩, ⟨k1, k2⟩, hd, ⟨s1, s2⟩, ⟨c1, c2⟩, bb1, bb2⟩ := hcf; have d1 : 8 ≤ d ∧ d ≤ 16 := (by omega); obtain ⟨d1, d2⟩ := d1; clear hd; have K0 := K0.trans hk; have HA := HA.keeps hk; have HB := HB.keeps hk; have HC := Has.new wc (cfgA p k d s c b) 84; have HM := Lib.hid hm; clear hm; have K0 := K0.alloc (.cells (cfgA p k d s c b) 84); have HA := HA.alloc (.cells (cfgA p k d s c b) 84); have HB := HB.alloc (.cells (cfgA p k d s c b) 84); have FX_ := (HC).facts; simp only [blockFacts, listFacts, cellsAt, Nat.reduceAdd, and_true, true_and, and_assoc] at FX_)
      | (go_at_call 55; refine (touchMade_c _ _ _ _ _ _ _ HM.out).mono ?_; rintro e w' ⟨m, bb, W, rfl, hk, hmm, hbb, hWW, M, HW⟩; have hmm := Nat.le_trans K0.size hmm; have hbb := Nat.le_trans K0.size hbb; have K0 := K0.trans hk; have HC := HC.keeps hk; have HA := HA.keeps hk; have HB := HB.keeps hk))
    generalize w' = W0 at *
    have hX0 : ∀ u : After W0, u.world.cell? ⟨w.heap.size, 0, none⟩ = some (.int .i64 a0) := fun u => (HA.keeps u.keeps).cell 0
    have hX1 : ∀ u : After W0, u.world.cell? ⟨w.heap.size, 1, none⟩ = some (.int .i64 a1) := fun u => (HA.keeps u.keeps).cell 1
    have hX2 : ∀ u : After W0, u.world.cell? ⟨wc.heap.size, 1, none⟩ = some (.int .i64 k) := fun u => (HC.keeps u.keeps).cell 1
    have hX3 : ∀ u : After W0, u.world.cell? ⟨wc.heap.size, 2, none⟩ = some (.int .i64 d) := fun u => (HC.keeps u.keeps).cell 2
    (refine wp_region_after_lit (by kernel_rfl) (by kernel_rfl) ?_; (try simp only [List.append_eq, List.cons_append, List.nil_append]); (repeat (first | go_big_quiet_step (((go_at_call 15; exact calls_after_same (number_c _ _ _ (by omega) (by omega))))) | ((with_reducible refine wpQuiet_step (fun K hK => ?_)); go_simp; first | (refine hK _ ?_; clear hK K) | (apply Exists.intro; refine ⟨fun _ => ?_, hK _ ?_⟩; ((go_at_call 15; exact calls_after_same (number_c _ _ _ (by omega) (by omega)))); clear hK K) | (refine ⟨.bool false, fun _ => ?_, hK _ ?_⟩; (simp; done); clear hK K) | (refine ⟨.bool true, fun _ => ?_, hK _ ?_⟩; (simp; done); clear hK K)))); refine wpQuiet_nil ?_; intro _ hw'; obtain ⟨uq, hw''⟩ := hw'; subst hw'')
    clear hX0 hX1 hX2 hX3
    go_upto_region 11 with fail
    refine wp_named' (fun W1 hW1 => ?_)
    have HK1 : Keeps W0 W1 := by rw [hW1]; exact uq.keeps
    have HA := HA.keeps HK1
    have HB := HB.keeps HK1
    have HC := HC.keeps HK1
    have M := M.keeps HK1
    have HW := HW.keeps HK1
    have K0 := K0.trans HK1
    clear hW1 HK1 uq
    have hX0 : ∀ u : After W1, u.world.cell? ⟨(w.heap.size + 1), 0, none⟩ = some (.int .i64 b0) := fun u => (HB.keeps u.keeps).cell 0
    have hX1 : ∀ u : After W1, u.world.cell? ⟨(w.heap.size + 1), 1, none⟩ = some (.int .i64 b1) := fun u => (HB.keeps u.keeps).cell 1
    have hX2 : ∀ u : After W1, u.world.cell? ⟨wc.heap.size, 1, none⟩ = some (.int .i64 k) := fun u => (HC.keeps u.keeps).cell 1
    have hX3 : ∀ u : After W1, u.world.cell? ⟨wc.heap.size, 2, none⟩ = some (.int .i64 d) := fun u => (HC.keeps u.keeps).cell 2
    (refine wp_region_after_lit (by kernel_rfl) (by kernel_rfl) ?_; (try simp only [List.append_eq, List.cons_append, List.nil_append]); (repeat (first | go_big_quiet_step (((go_at_call 15; exact calls_after_same (number_c _ _ _ (by omega) (by omega))))) | ((with_reducible refine wpQuiet_step (fun K hK => ?_)); go_simp; first | (refine hK _ ?_; clear hK K) | (apply Exists.intro; refine ⟨fun _ => ?_, hK _ ?_⟩; ((go_at_call 15; exact calls_after_same (number_c _ _ _ (by omega) (by omega)))); clear hK K) | (refine ⟨.bool false, fun _ => ?_, hK _ ?_⟩; (simp; done); clear hK K) | (refine ⟨.bool true, fun _ => ?_, hK _ ?_⟩; (simp; done); clear hK K)))); refine wpQuiet_nil ?_; intro _ hw'; obtain ⟨uq, hw''⟩ := hw'; subst hw'')
    clear hX0 hX1 hX2 hX3
    have bx := mod_bd a0 k (by omega)
    have bi := mod_bd a1 d (by omega)
    have bY := mod_bd b0 k (by omega)
    have bj := mod_bd b1 d (by omega)
    generalize a0 % k = xx at *
    generalize a1 % d = ii at *
    generalize b0 % k = yy at *
    generalize b1 % d = jj at *
    obtain ⟨x0, x1⟩ := bx
    obtain ⟨i0, i1⟩ := bi
    obtain ⟨y0, y1⟩ := bY
    obtain ⟨j0, j1⟩ := bj
    obtain ⟨ex, ex0, ex1⟩ := wordI_in HM.out x0 x1 i0 i1
    obtain ⟨ey, ey0, ey1⟩ := wordI_in HM.out y0 y1 j0 j1
    obtain ⟨cx, hcx⟩ := Int.eq_ofNat_of_zero_le ex0
    obtain ⟨cy, hcy⟩ := Int.eq_ofNat_of_zero_le ey0
    have HX := Lib.hid hcx
    have HY := Lib.hid hcy
    have hinj : Hid (cx = cy → xx = yy ∧ ii = jj) := Lib.hid (fun e => word_inj (d := d) (by omega) i0 i1 j0 j1 (by omega))
    obtain ⟨N, hN⟩ : ∃ N, (lenI p k d s c b).toNat = N := ⟨_, rfl⟩
    have hcxN : cx < N := by omega
    have hcyN : cy < N := by omega
    rw [hN] at M
    clear ex ex0 ex1 ey ey0 ey1 hcx hcy hN
    have HO : Hid ((List.replicate N (0 : Int))[cy]? = some 0) := Lib.hid (by rw [List.getElem?_replicate_of_lt hcyN])
    generalize hl00 : List.replicate N (0 : Int) = l0 at *
    go_upto_region 12 with fail
    refine wp_named' (fun W2 hW2 => ?_)
    have HK2 : Keeps W1 W2 := by rw [hW2]; exact (Keeps.trans uq.keeps (by ((repeat' (first | (with_reducible exact Keeps.refl _) | (with_reducible assumption) | (with_reducible refine Keeps.drewN ?_ _) | (with_reducible refine Keeps.drew ?_) | (with_reducible refine Keeps.alloc ?_ _) | (with_reducible refine Keeps.setCell ?_ ?_ _) | (with_reducible refine Keeps.trans ?_ (After.keeps _)) | (with_reducible refine Keeps.trans ?_ (by with_reducible assumption)) | go_size)); (first | done | fail))))
    have M := M.keeps HK2
    have HW := HW.keeps HK2
    have K0 := K0.trans HK2
    clear hW2 HK2 uq HA HB HC hl00
    go_wp2_with (go_at_call 59; refine (tdoes_c (i := cy) _ _ HW M (by omega) HY.out HO.out (by omega)).mono ?_; rintro e w' ⟨rfl, hu, HW, x2, M, hx2⟩; have K0 := K0.upd hu (by simp; exact ⟨hmm, hbb⟩))
    have hK77 : Hid ((tMem 7 l0 cy 0 77 0)[cy]? = some 77) := Lib.hid (by
      have hlen := M.len
      rw [tMem_len] at hlen
      simp only [tMem]
      rw [if_pos trivial, List.getElem?_set_self (by omega)])
    have hl1 : Hid ((tMem 7 l0 cy 0 77 0).length = N) := Lib.hid M.len
    generalize tMem 7 l0 cy 0 77 0 = l1 at *
    go_loopw [19] (fun i wr => ∃ (q : Nat) (l : List Int) (x : Acc), q ≤ zs.length ∧ i = .int .i64 q ∧ Has wr W (wordsOf m p k d s c b) 155 ∧ Mem wr m bb N l (0 + 1 + q) x ∧ Keeps w wr ∧ Hid (cx ≠ cy → l[cy]? = some 77)) (fun i _ => zs.length - (intOf i).toNat)
    case atStart => exact ⟨0, l1, x2, by omega, rfl, HW.alloc _, M.alloc _, K0.alloc _, Lib.hid (fun _ => hK77.out)⟩
    case round =>
      obtain ⟨q, l, x, hq, rfl, HW, M, K0, h77⟩ := hrel
      by_cases hlt : q < zs.length
      · obtain ⟨bl, off, rfl, hb, hc⟩ := HR.out (by rintro rfl; simp at hlt)
        have hzl : zs[q].length = 5 := (HZ.out _ (List.getElem_mem hlt)).1
        obtain ⟨z0, z1, z2, z3, z4, hz⟩ : ∃ a b c d e, zs[q] = [a, b, c, d, e] := by
          match zs[q], hzl with
          | [a, b, c, d, e], _ => exact ⟨a, b, c, d, e, rfl⟩
        have hc0 := hc q _ (List.getElem?_eq_getElem hlt) 0 (.int .i64 z0) (by rw [hz]; rfl)
        have hc3 := hc q _ (List.getElem?_eq_getElem hlt) 3 (.int .u64 z3) (by rw [hz]; rfl)
        have hc4 := hc q _ (List.getElem?_eq_getElem hlt) 4 (.int .u64 z4) (by rw [hz]; rfl)
        have hw3 : w.cell? ⟨bl, off + q * 5 + 3, none⟩ = some (.int .u64 z3) := hc3
        have hw4 : w.cell? ⟨bl, off + q * 5 + 4, none⟩ = some (.int .u64 z4) := hc4
        rw [← K0.cell hb] at hc0 hc3 hc4
        have hc0 : wr.cell? ⟨bl, off + q * 5, none⟩ = some (.int .i64 z0) := hc0
        have hc3 : wr.cell? ⟨bl, off + q * 5 + 3, none⟩ = some (.int .u64 z3) := hc3
        have hc4 : wr.cell? ⟨bl, off + q * 5 + 4, none⟩ = some (.int .u64 z4) := hc4
        have hbw := Nat.lt_of_lt_of_le hb K0.size
        clear hc hz hzl
        have hlN := M.len
        have HOx : Hid (l[cx]? = some (l.getD cx 0)) := Lib.hid (getD_some' (by omega))
        have bz := mod_bd z0 4 (by omega)
        obtain ⟨kz, hkz⟩ : ∃ kz, z0 % 4 = kz := ⟨_, rfl⟩
        rw [hkz] at bz
        have HKZ := Lib.hid hkz
        clear hkz
        have hkc : kz = 0 ∨ kz = 1 ∨ kz = 2 ∨ kz = 3 := by omega
        clear bz
        rcases hkc with rfl | rfl | rfl | rfl
        · go_upto_region 19 with (go_at_call 15; refine (number_c _ _ _ (by omega) (by omega)).mono ?_; rintro e w' ⟨rfl, rfl⟩; rw [HKZ.out])
          refine wp_named' (fun W3 hW3 => ?_)
          have HK3 : Keeps wr W3 := by rw [hW3]; ((repeat' (first | (with_reducible exact Keeps.refl _) | (with_reducible assumption) | (with_reducible refine Keeps.drewN ?_ _) | (with_reducible refine Keeps.drew ?_) | (with_reducible refine Keeps.alloc ?_ _) | (with_reducible refine Keeps.setCell ?_ ?_ _) | (with_reducible refine Keeps.trans ?_ (After.keeps _)) | (with_reducible refine Keeps.trans ?_ (by with_reducible assumption)) | go_size)); (first | done | fail))
          have M := M.keeps HK3
          have HW := HW.keeps HK3
          have K0 := K0.trans HK3
          clear hW3 HK3 hc3 hc4
          have ltW := HW.lt
          have ltM := M.lt
          have ltM1 := ltM.1
          have ltM2 := ltM.2
          have szW := K0.size
          go_region_held3 (fun y => y.cell? ⟨bl, off + q * 5 + 3, none⟩ = some (.int .u64 z3) ∧ y.cell? ⟨bl, off + q * 5 + 4, none⟩ = some (.int .u64 z4)) (refine ⟨(Keeps.cell (by ((repeat' (first | (with_reducible exact Keeps.refl _) | (with_reducible assumption) | (with_reducible refine Keeps.drewN ?_ _) | (with_reducible refine Keeps.drew ?_) | (with_reducible refine Keeps.alloc ?_ _) | (with_reducible refine Keeps.setCell ?_ ?_ _) | (with_reducible refine Keeps.trans ?_ (After.keeps _)) | (with_reducible refine Keeps.trans ?_ (by with_reducible assumption)) | go_size)); (first | done | fail))) hb).trans hw3, (Keeps.cell (by ((repeat' (first | (with_reducible exact Keeps.refl _) | (with_reducible assumption) | (with_reducible refine Keeps.drewN ?_ _) | (with_reducible refine Keeps.drew ?_) | (with_reducible refine Keeps.alloc ?_ _) | (with_reducible refine Keeps.setCell ?_ ?_ _) | (with_reducible refine Keeps.trans ?_ (After.keeps _)) | (with_reducible refine Keeps.trans ?_ (by with_reducible assumption)) | go_size)); (first | done | fail))) hb).trans hw4⟩)
            ((go_at_call 59; refine (tdoes_c (i := cx) _ _ (HW.keeps (by ((repeat' (first | (with_reducible exact Keeps.refl _) | (with_reducible assumption) | (with_reducible refine Keeps.drewN ?_ _) | (with_reducible refine Keeps.drew ?_) | (with_reducible refine Keeps.alloc ?_ _) | (with_reducible refine Keeps.setCell ?_ ?_ _) | (with_reducible refine Keeps.trans ?_ (After.keeps _)) | (with_reducible refine Keeps.trans ?_ (by with_reducible assumption)) | go_size)); (first | done | fail)))) (M.keeps (by ((repeat' (first | (with_reducible exact Keeps.refl _) | (with_reducible assumption) | (with_reducible refine Keeps.drewN ?_ _) | (with_reducible refine Keeps.drew ?_) | (with_reducible refine Keeps.alloc ?_ _) | (with_reducible refine Keeps.setCell ?_ ?_ _) | (with_reducible refine Keeps.trans ?_ (After.keeps _)) | (with_reducible refine Keeps.trans ?_ (by with_reducible assumption)) | go_size)); (first | done | fail)))) (by omega) HX.out HOx.out (by omega)).mono ?_; rintro e w' ⟨rfl, hu, HW, x3, M, hx3⟩; have K0 := Keeps.upd (a := w) (by ((repeat' (first | (with_reducible exact Keeps.refl _) | (with_reducible assumption) | (with_reducible refine Keeps.drewN ?_ _) | (with_reducible refine Keeps.drew ?_) | (with_reducible refine Keeps.alloc ?_ _) | (with_reducible refine Keeps.setCell ?_ ?_ _) | (with_reducible refine Keeps.trans ?_ (After.keeps _)) | (with_reducible refine Keeps.trans ?_ (by with_reducible assumption)) | go_size)); (first | done | fail))) hu (by simp; exact ⟨hmm, hbb⟩); have szk := K0.size; have szu := hu.size; (first | (have HRb := Has.upd (Has.drew (Has.new W3 #[.int .i64 0, .int .i64 0, .int .i64 0, .int .i64 0, .int .i64 0, .int .i64 0, .int .i64 0, .int .u64 0] 101)) hu (by simp only [List.mem_cons, List.not_mem_nil, or_false, not_or]; omega); have FX_ := (HRb).facts; simp only [blockFacts, listFacts, cellsAt, Nat.reduceAdd, and_true, true_and, and_assoc] at FX_) | skip)))
          all_goals go_upto_region 20 with fail
          all_goals (
            refine wp_named' (fun W4 hW4 => ?_)
            have hS : Upd [W3.heap.size] w' W4 := by rw [hW4]; (repeat (first | (with_reducible exact Upd.refl _ _) | (with_reducible assumption) | (with_reducible refine Upd.setCell ?_ (by first | (left; simp; done) | (right; go_size)) _) | (with_reducible refine Upd.alloc ?_ _) | (with_reducible refine Upd.drewN ?_ _) | (with_reducible refine Upd.drew ?_)))
            have HW := HW.upd hS (by simp; omega)
            have M := M.upd hS (by simp; omega) (by simp; omega)
            have K0 := K0.upd hS (by simp; omega)
            clear hW4 hS
            go_wp2
            go_roundw
            case rel =>
              refine ⟨q + 1, tMem 6 l cx (l.getD cx 0) z3 z4, x3, by omega, by go_num, HW, ?_, K0, Lib.hid (fun hne => by rw [tMem_ne _ _ hne]; exact h77.out hne)⟩
              rw [show ((0 : Int) + 1 + ((q + 1 : Nat) : Int)) = 0 + 1 + q + 1 by omega]
              exact M
            case measure => simp [intOf]; omega)
        · go_upto_region 19 with (go_at_call 15; refine (number_c _ _ _ (by omega) (by omega)).mono ?_; rintro e w' ⟨rfl, rfl⟩; rw [HKZ.out])
          refine wp_named' (fun W3 hW3 => ?_)
          have HK3 : Keeps wr W3 := by rw [hW3]; ((repeat' (first | (with_reducible exact Keeps.refl _) | (with_reducible assumption) | (with_reducible refine Keeps.drewN ?_ _) | (with_reducible refine Keeps.drew ?_) | (with_reducible refine Keeps.alloc ?_ _) | (with_reducible refine Keeps.setCell ?_ ?_ _) | (with_reducible refine Keeps.trans ?_ (After.keeps _)) | (with_reducible refine Keeps.trans ?_ (by with_reducible assumption)) | go_size)); (first | done | fail))
          have M := M.keeps HK3
          have HW := HW.keeps HK3
          have K0 := K0.trans HK3
          clear hW3 HK3 hc3 hc4
          have ltW := HW.lt
          have ltM := M.lt
          have ltM1 := ltM.1
          have ltM2 := ltM.2
          have szW := K0.size
          go_region_held3 (fun y => y.cell? ⟨bl, off + q * 5 + 3, none⟩ = some (.int .u64 z3) ∧ y.cell? ⟨bl, off + q * 5 + 4, none⟩ = some (.int .u64 z4)) (refine ⟨(Keeps.cell (by ((repeat' (first | (with_reducible exact Keeps.refl _) | (with_reducible assumption) | (with_reducible refine Keeps.drewN ?_ _) | (with_reducible refine Keeps.drew ?_) | (with_reducible refine Keeps.alloc ?_ _) | (with_reducible refine Keeps.setCell ?_ ?_ _) | (with_reducible refine Keeps.trans ?_ (After.keeps _)) | (with_reducible refine Keeps.trans ?_ (by with_reducible assumption)) | go_size)); (first | done | fail))) hb).trans hw3, (Keeps.cell (by ((repeat' (first | (with_reducible exact Keeps.refl _) | (with_reducible assumption) | (with_reducible refine Keeps.drewN ?_ _) | (with_reducible refine Keeps.drew ?_) | (with_reducible refine Keeps.alloc ?_ _) | (with_reducible refine Keeps.setCell ?_ ?_ _) | (with_reducible refine Keeps.trans ?_ (After.keeps _)) | (with_reducible refine Keeps.trans ?_ (by with_reducible assumption)) | go_size)); (first | done | fail))) hb).trans hw4⟩)
            ((go_at_call 59; refine (tdoes_c (i := cx) _ _ (HW.keeps (by ((repeat' (first | (with_reducible exact Keeps.refl _) | (with_reducible assumption) | (with_reducible refine Keeps.drewN ?_ _) | (with_reducible refine Keeps.drew ?_) | (with_reducible refine Keeps.alloc ?_ _) | (with_reducible refine Keeps.setCell ?_ ?_ _) | (with_reducible refine Keeps.trans ?_ (After.keeps _)) | (with_reducible refine Keeps.trans ?_ (by with_reducible assumption)) | go_size)); (first | done | fail)))) (M.keeps (by ((repeat' (first | (with_reducible exact Keeps.refl _) | (with_reducible assumption) | (with_reducible refine Keeps.drewN ?_ _) | (with_reducible refine Keeps.drew ?_) | (with_reducible refine Keeps.alloc ?_ _) | (with_reducible refine Keeps.setCell ?_ ?_ _) | (with_reducible refine Keeps.trans ?_ (After.keeps _)) | (with_reducible refine Keeps.trans ?_ (by with_reducible assumption)) | go_size)); (first | done | fail)))) (by omega) HX.out HOx.out (by omega)).mono ?_; rintro e w' ⟨rfl, hu, HW, x3, M, hx3⟩; have K0 := Keeps.upd (a := w) (by ((repeat' (first | (with_reducible exact Keeps.refl _) | (with_reducible assumption) | (with_reducible refine Keeps.drewN ?_ _) | (with_reducible refine Keeps.drew ?_) | (with_reducible refine Keeps.alloc ?_ _) | (with_reducible refine Keeps.setCell ?_ ?_ _) | (with_reducible refine Keeps.trans ?_ (After.keeps _)) | (with_reducible refine Keeps.trans ?_ (by with_reducible assumption)) | go_size)); (first | done | fail))) hu (by simp; exact ⟨hmm, hbb⟩); have szk := K0.size; have szu := hu.size; (first | (have HRb := Has.upd (Has.drew (Has.new W3 #[.int .i64 0, .int .i64 0, .int .i64 0, .int .i64 0, .int .i64 0, .int .i64 0, .int .i64 0, .int .u64 0] 101)) hu (by simp only [List.mem_cons, List.not_mem_nil, or_false, not_or]; omega); have FX_ := (HRb).facts; simp only [blockFacts, listFacts, cellsAt, Nat.reduceAdd, and_true, true_and, and_assoc] at FX_) | skip)))
          all_goals go_upto_region 20 with fail
          all_goals (
            refine wp_named' (fun W4 hW4 => ?_)
            have hS : Upd [W3.heap.size] w' W4 := by rw [hW4]; (repeat (first | (with_reducible exact Upd.refl _ _) | (with_reducible assumption) | (with_reducible refine Upd.setCell ?_ (by first | (left; simp; done) | (right; go_size)) _) | (with_reducible refine Upd.alloc ?_ _) | (with_reducible refine Upd.drewN ?_ _) | (with_reducible refine Upd.drew ?_)))
            have HW := HW.upd hS (by simp; omega)
            have M := M.upd hS (by simp; omega) (by simp; omega)
            have K0 := K0.upd hS (by simp; omega)
            clear hW4 hS
            go_wp2
            go_roundw
            case rel =>
              refine ⟨q + 1, tMem 7 l cx (l.getD cx 0) z3 z4, x3, by omega, by go_num, HW, ?_, K0, Lib.hid (fun hne => by rw [tMem_ne _ _ hne]; exact h77.out hne)⟩
              rw [show ((0 : Int) + 1 + ((q + 1 : Nat) : Int)) = 0 + 1 + q + 1 by omega]
              exact M
            case measure => simp [intOf]; omega)
        · go_upto_region 19 with (go_at_call 15; refine (number_c _ _ _ (by omega) (by omega)).mono ?_; rintro e w' ⟨rfl, rfl⟩; rw [HKZ.out])
          refine wp_named' (fun W3 hW3 => ?_)
          have HK3 : Keeps wr W3 := by rw [hW3]; ((repeat' (first | (with_reducible exact Keeps.refl _) | (with_reducible assumption) | (with_reducible refine Keeps.drewN ?_ _) | (with_reducible refine Keeps.drew ?_) | (with_reducible refine Keeps.alloc ?_ _) | (with_reducible refine Keeps.setCell ?_ ?_ _) | (with_reducible refine Keeps.trans ?_ (After.keeps _)) | (with_reducible refine Keeps.trans ?_ (by with_reducible assumption)) | go_size)); (first | done | fail))
          have M := M.keeps HK3
          have HW := HW.keeps HK3
          have K0 := K0.trans HK3
          clear hW3 HK3 hc3 hc4
          have ltW := HW.lt
          have ltM := M.lt
          have ltM1 := ltM.1
          have ltM2 := ltM.2
          have szW := K0.size
          go_region_held3 (fun y => y.cell? ⟨bl, off + q * 5 + 3, none⟩ = some (.int .u64 z3) ∧ y.cell? ⟨bl, off + q * 5 + 4, none⟩ = some (.int .u64 z4)) (refine ⟨(Keeps.cell (by ((repeat' (first | (with_reducible exact Keeps.refl _) | (with_reducible assumption) | (with_reducible refine Keeps.drewN ?_ _) | (with_reducible refine Keeps.drew ?_) | (with_reducible refine Keeps.alloc ?_ _) | (with_reducible refine Keeps.setCell ?_ ?_ _) | (with_reducible refine Keeps.trans ?_ (After.keeps _)) | (with_reducible refine Keeps.trans ?_ (by with_reducible assumption)) | go_size)); (first | done | fail))) hb).trans hw3, (Keeps.cell (by ((repeat' (first | (with_reducible exact Keeps.refl _) | (with_reducible assumption) | (with_reducible refine Keeps.drewN ?_ _) | (with_reducible refine Keeps.drew ?_) | (with_reducible refine Keeps.alloc ?_ _) | (with_reducible refine Keeps.setCell ?_ ?_ _) | (with_reducible refine Keeps.trans ?_ (After.keeps _)) | (with_reducible refine Keeps.trans ?_ (by with_reducible assumption)) | go_size)); (first | done | fail))) hb).trans hw4⟩)
            ((go_at_call 59; refine (tdoes_c (i := cx) _ _ (HW.keeps (by ((repeat' (first | (with_reducible exact Keeps.refl _) | (with_reducible assumption) | (with_reducible refine Keeps.drewN ?_ _) | (with_reducible refine Keeps.drew ?_) | (with_reducible refine Keeps.alloc ?_ _) | (with_reducible refine Keeps.setCell ?_ ?_ _) | (with_reducible refine Keeps.trans ?_ (After.keeps _)) | (with_reducible refine Keeps.trans ?_ (by with_reducible assumption)) | go_size)); (first | done | fail)))) (M.keeps (by ((repeat' (first | (with_reducible exact Keeps.refl _) | (with_reducible assumption) | (with_reducible refine Keeps.drewN ?_ _) | (with_reducible refine Keeps.drew ?_) | (with_reducible refine Keeps.alloc ?_ _) | (with_reducible refine Keeps.setCell ?_ ?_ _) | (with_reducible refine Keeps.trans ?_ (After.keeps _)) | (with_reducible refine Keeps.trans ?_ (by with_reducible assumption)) | go_size)); (first | done | fail)))) (by omega) HX.out HOx.out (by omega)).mono ?_; rintro e w' ⟨rfl, hu, HW, x3, M, hx3⟩; have K0 := Keeps.upd (a := w) (by ((repeat' (first | (with_reducible exact Keeps.refl _) | (with_reducible assumption) | (with_reducible refine Keeps.drewN ?_ _) | (with_reducible refine Keeps.drew ?_) | (with_reducible refine Keeps.alloc ?_ _) | (with_reducible refine Keeps.setCell ?_ ?_ _) | (with_reducible refine Keeps.trans ?_ (After.keeps _)) | (with_reducible refine Keeps.trans ?_ (by with_reducible assumption)) | go_size)); (first | done | fail))) hu (by simp; exact ⟨hmm, hbb⟩); have szk := K0.size; have szu := hu.size; (first | (have HRb := Has.upd (Has.drew (Has.new W3 #[.int .i64 0, .int .i64 0, .int .i64 0, .int .i64 0, .int .i64 0, .int .i64 0, .int .i64 0, .int .u64 0] 101)) hu (by simp only [List.mem_cons, List.not_mem_nil, or_false, not_or]; omega); have FX_ := (HRb).facts; simp only [blockFacts, listFacts, cellsAt, Nat.reduceAdd, and_true, true_and, and_assoc] at FX_) | skip)))
          all_goals go_upto_region 20 with fail
          all_goals (
            refine wp_named' (fun W4 hW4 => ?_)
            have hS : Upd [W3.heap.size] w' W4 := by rw [hW4]; (repeat (first | (with_reducible exact Upd.refl _ _) | (with_reducible assumption) | (with_reducible refine Upd.setCell ?_ (by first | (left; simp; done) | (right; go_size)) _) | (with_reducible refine Upd.alloc ?_ _) | (with_reducible refine Upd.drewN ?_ _) | (with_reducible refine Upd.drew ?_)))
            have HW := HW.upd hS (by simp; omega)
            have M := M.upd hS (by simp; omega) (by simp; omega)
            have K0 := K0.upd hS (by simp; omega)
            clear hW4 hS
            go_wp2
            go_roundw
            case rel =>
              refine ⟨q + 1, tMem 8 l cx (l.getD cx 0) z3 z4, x3, by omega, by go_num, HW, ?_, K0, Lib.hid (fun hne => by rw [tMem_ne _ _ hne]; exact h77.out hne)⟩
              rw [show ((0 : Int) + 1 + ((q + 1 : Nat) : Int)) = 0 + 1 + q + 1 by omega]
              exact M
            case measure => simp [intOf]; omega)
        · go_upto_region 19 with (go_at_call 15; refine (number_c _ _ _ (by omega) (by omega)).mono ?_; rintro e w' ⟨rfl, rfl⟩; rw [HKZ.out])
          refine wp_named' (fun W3 hW3 => ?_)
          have HK3 : Keeps wr W3 := by rw [hW3]; ((repeat' (first | (with_reducible exact Keeps.refl _) | (with_reducible assumption) | (with_reducible refine Keeps.drewN ?_ _) | (with_reducible refine Keeps.drew ?_) | (with_reducible refine Keeps.alloc ?_ _) | (with_reducible refine Keeps.setCell ?_ ?_ _) | (with_reducible refine Keeps.trans ?_ (After.keeps _)) | (with_reducible refine Keeps.trans ?_ (by with_reducible assumption)) | go_size)); (first | done | fail))
          have M := M.keeps HK3
          have HW := HW.keeps HK3
          have K0 := K0.trans HK3
          clear hW3 HK3 hc3 hc4
          have ltW := HW.lt
          have ltM := M.lt
          have ltM1 := ltM.1
          have ltM2 := ltM.2
          have szW := K0.size
          go_region_held3 (fun y => y.cell? ⟨bl, off + q * 5 + 3, none⟩ = some (.int .u64 z3) ∧ y.cell? ⟨bl, off + q * 5 + 4, none⟩ = some (.int .u64 z4)) (refine ⟨(Keeps.cell (by ((repeat' (first | (with_reducible exact Keeps.refl _) | (with_reducible assumption) | (with_reducible refine Keeps.drewN ?_ _) | (with_reducible refine Keeps.drew ?_) | (with_reducible refine Keeps.alloc ?_ _) | (with_reducible refine Keeps.setCell ?_ ?_ _) | (with_reducible refine Keeps.trans ?_ (After.keeps _)) | (with_reducible refine Keeps.trans ?_ (by with_reducible assumption)) | go_size)); (first | done | fail))) hb).trans hw3, (Keeps.cell (by ((repeat' (first | (with_reducible exact Keeps.refl _) | (with_reducible assumption) | (with_reducible refine Keeps.drewN ?_ _) | (with_reducible refine Keeps.drew ?_) | (with_reducible refine Keeps.alloc ?_ _) | (with_reducible refine Keeps.setCell ?_ ?_ _) | (with_reducible refine Keeps.trans ?_ (After.keeps _)) | (with_reducible refine Keeps.trans ?_ (by with_reducible assumption)) | go_size)); (first | done | fail))) hb).trans hw4⟩)
            ((go_at_call 59; refine (tdoes_c (i := cx) _ _ (HW.keeps (by ((repeat' (first | (with_reducible exact Keeps.refl _) | (with_reducible assumption) | (with_reducible refine Keeps.drewN ?_ _) | (with_reducible refine Keeps.drew ?_) | (with_reducible refine Keeps.alloc ?_ _) | (with_reducible refine Keeps.setCell ?_ ?_ _) | (with_reducible refine Keeps.trans ?_ (After.keeps _)) | (with_reducible refine Keeps.trans ?_ (by with_reducible assumption)) | go_size)); (first | done | fail)))) (M.keeps (by ((repeat' (first | (with_reducible exact Keeps.refl _) | (with_reducible assumption) | (with_reducible refine Keeps.drewN ?_ _) | (with_reducible refine Keeps.drew ?_) | (with_reducible refine Keeps.alloc ?_ _) | (with_reducible refine Keeps.setCell ?_ ?_ _) | (with_reducible refine Keeps.trans ?_ (After.keeps _)) | (with_reducible refine Keeps.trans ?_ (by with_reducible assumption)) | go_size)); (first | done | fail)))) (by omega) HX.out HOx.out (by omega)).mono ?_; rintro e w' ⟨rfl, hu, HW, x3, M, hx3⟩; have K0 := Keeps.upd (a := w) (by ((repeat' (first | (with_reducible exact Keeps.refl _) | (with_reducible assumption) | (with_reducible refine Keeps.drewN ?_ _) | (with_reducible refine Keeps.drew ?_) | (with_reducible refine Keeps.alloc ?_ _) | (with_reducible refine Keeps.setCell ?_ ?_ _) | (with_reducible refine Keeps.trans ?_ (After.keeps _)) | (with_reducible refine Keeps.trans ?_ (by with_reducible assumption)) | go_size)); (first | done | fail))) hu (by simp; exact ⟨hmm, hbb⟩); have szk := K0.size; have szu := hu.size; (first | (have HRb := Has.upd (Has.drew (Has.new W3 #[.int .i64 0, .int .i64 0, .int .i64 0, .int .i64 0, .int .i64 0, .int .i64 0, .int .i64 0, .int .u64 0] 101)) hu (by simp only [List.mem_cons, List.not_mem_nil, or_false, not_or]; omega); have FX_ := (HRb).facts; simp only [blockFacts, listFacts, cellsAt, Nat.reduceAdd, and_true, true_and, and_assoc] at FX_) | skip)))
          all_goals go_upto_region 20 with fail
          all_goals (
            refine wp_named' (fun W4 hW4 => ?_)
            have hS : Upd [W3.heap.size] w' W4 := by rw [hW4]; (repeat (first | (with_reducible exact Upd.refl _ _) | (with_reducible assumption) | (with_reducible refine Upd.setCell ?_ (by first | (left; simp; done) | (right; go_size)) _) | (with_reducible refine Upd.alloc ?_ _) | (with_reducible refine Upd.drewN ?_ _) | (with_reducible refine Upd.drew ?_)))
            have HW := HW.upd hS (by simp; omega)
            have M := M.upd hS (by simp; omega) (by simp; omega)
            have K0 := K0.upd hS (by simp; omega)
            clear hW4 hS
            go_wp2
            go_roundw
            case rel =>
              refine ⟨q + 1, tMem 9 l cx (l.getD cx 0) z3 z4, x3, by omega, by go_num, HW, ?_, K0, Lib.hid (fun hne => by rw [tMem_ne _ _ hne]; exact h77.out hne)⟩
              rw [show ((0 : Int) + 1 + ((q + 1 : Nat) : Int)) = 0 + 1 + q + 1 by omega]
              exact M
            case measure => simp [intOf]; omega)
      · obtain rfl : q = zs.length := by omega
        have hlN := M.len
        have HOy : Hid (l[cy]? = some (l.getD cy 0)) := Lib.hid (getD_some' (by omega))
        have hnl : ¬ (zs.length : Int) < zs.length := by omega
        have ecount : ((1 : Int) + (zs.length : Int) + 1 == (zs.length : Int) + 2) = true := by rw [beq_iff_eq]; omega
        rcases (show (xx = yy ∧ ii = jj) ∨ (xx = yy ∧ ii ≠ jj) ∨ xx ≠ yy by omega) with ⟨hxy, hij⟩ | ⟨hxy, hij⟩ | hxy
        · have e1 : (xx == yy) = true := by rw [beq_iff_eq]; exact hxy
          have e2 : (ii == jj) = true := by rw [beq_iff_eq]; exact hij
          clear hxy hij
          skip
          have HT : Hid (tN 6 (l.getD cy 0) 0 = 0 ∧ tV 6 (l.getD cy 0) = l.getD cy 0) := Lib.hid (by simp [tN, tV])
          go_wp2_with (first
            | (go_at_call 59; refine (tdoes_c (i := cy) (o := l.getD cy 0) _ _ HW M (by omega) HY.out HOy.out (by omega)).mono ?_; rintro e w' ⟨rfl, hu, HW, x3, M, hx3⟩; rw [HT.out.1, HT.out.2]; have K0 := K0.upd hu (by simp; exact ⟨hmm, hbb⟩))
            | (go_at_call 45; refine (mcount (M.alloc _)).mono ?_; rintro e w' ⟨rfl, rfl⟩))
          go_ret
          exact ⟨rfl, by ((repeat' (first | (with_reducible exact Keeps.refl _) | (with_reducible assumption) | (with_reducible refine Keeps.drewN ?_ _) | (with_reducible refine Keeps.drew ?_) | (with_reducible refine Keeps.alloc ?_ _) | (with_reducible refine Keeps.setCell ?_ ?_ _) | (with_reducible refine Keeps.trans ?_ (After.keeps _)) | (with_reducible refine Keeps.trans ?_ (by with_reducible assumption)) | go_size)); (first | done | fail))⟩
        · have H7 : Hid (l[cy]? = some 77) := Lib.hid (h77.out (fun e => hij (hinj.out e).2))
          have e1 : (xx == yy) = true := by rw [beq_iff_eq]; exact hxy
          have e2 : (ii == jj) = false := by rw [beq_eq_false_iff_ne]; exact hij
          clear hxy hij
          skip
          have HT : Hid (tN 6 (77) 0 = 0 ∧ tV 6 (77) = 77) := Lib.hid (by simp [tN, tV])
          go_wp2_with (first
            | (go_at_call 59; refine (tdoes_c (i := cy) (o := 77) _ _ HW M (by omega) HY.out H7.out (by omega)).mono ?_; rintro e w' ⟨rfl, hu, HW, x3, M, hx3⟩; rw [HT.out.1, HT.out.2]; have K0 := K0.upd hu (by simp; exact ⟨hmm, hbb⟩))
            | (go_at_call 45; refine (mcount (M.alloc _)).mono ?_; rintro e w' ⟨rfl, rfl⟩))
          go_ret
          exact ⟨rfl, by ((repeat' (first | (with_reducible exact Keeps.refl _) | (with_reducible assumption) | (with_reducible refine Keeps.drewN ?_ _) | (with_reducible refine Keeps.drew ?_) | (with_reducible refine Keeps.alloc ?_ _) | (with_reducible refine Keeps.setCell ?_ ?_ _) | (with_reducible refine Keeps.trans ?_ (After.keeps _)) | (with_reducible refine Keeps.trans ?_ (by with_reducible assumption)) | go_size)); (first | done | fail))⟩
        · have H7 : Hid (l[cy]? = some 77) := Lib.hid (h77.out (fun e => hxy (hinj.out e).1))
          have e1 : (xx == yy) = false := by rw [beq_eq_false_iff_ne]; exact hxy
          clear hxy
          skip
          have HT : Hid (tN 6 (77) 0 = 0 ∧ tV 6 (77) = 77) := Lib.hid (by simp [tN, tV])
          go_wp2_with (first
            | (go_at_call 59; refine (tdoes_c (i := cy) (o := 77) _ _ HW M (by omega) HY.out H7.out (by omega)).mono ?_; rintro e w' ⟨rfl, hu, HW, x3, M, hx3⟩; rw [HT.out.1, HT.out.2]; have K0 := K0.upd hu (by simp; exact ⟨hmm, hbb⟩))
            | (go_at_call 45; refine (mcount (M.alloc _)).mono ?_; rintro e w' ⟨rfl, rfl⟩))
          go_ret
          exact ⟨rfl, by ((repeat' (first | (with_reducible exact Keeps.refl _) | (with_reducible assumption) | (with_reducible refine Keeps.drewN ?_ _) | (with_reducible refine Keeps.drew ?_) | (with_reducible refine Keeps.alloc ?_ _) | (with_reducible refine Keeps.setCell ?_ ?_ _) | (with_reducible refine Keeps.trans ?_ (After.keeps _)) | (with_reducible refine Keeps.trans ?_ (by with_reducible assumption)) | go_size)); (first | done | fail))⟩
end Go.Proofs.Ytkpagkopfdblgaa
