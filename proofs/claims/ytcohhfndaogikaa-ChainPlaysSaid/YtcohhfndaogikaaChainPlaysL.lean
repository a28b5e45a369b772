/- The law ChainPlays, walked. -/
import Derived.Test.YtcohhfndaogikaaChainTwo
import Derived.Deep.QuietTactic
import Derived.BigQuiet
import Derived.Deep.RegionHeld3
import Derived.Deep.DrawnRows
namespace Go.Proofs.Ytcohhfndaogikaa
set_option linter.unusedVariables false
set_option linter.unusedSimpArgs false
open Go Go.RowKit
set_option maxRecDepth 100000
attribute [local go_sem ↓] Go.wp_at_zero Go.wp_at_succ
set_option maxHeartbeats 2000000

theorem chainPlays_c (n : Int) (v : Value) (zs : List (List Int)) (w : World) (hr : ReadsF [.i64, .i64] w v zs) (hz2 : ∀ z ∈ zs, z.length = 2) :
    Calls Try.prog 6 #[.int .i64 n, v] w fun e w' => e = .returned (.bool true) ∧ Keeps w w' := by
  obtain ⟨a, cap, rfl, hr⟩ := hr
  have HR := Lib.hid hr
  have HZ := Lib.hid hz2
  clear hr hz2
  by_cases hl : 40 < zs.length
  · go_enter Try.func6, Try.ntmps6
    go_wp2_with (go_at_call 13; refine (chainFirst_c _).mono ?_; rintro e w' ⟨rfl, K0⟩)
    go_ret
    exact ⟨rfl, by ((repeat' (first | (with_reducible exact Keeps.refl _) | (with_reducible assumption) | (with_reducible refine Keeps.drewN ?_ _) | (with_reducible refine Keeps.drew ?_) | (with_reducible refine Keeps.alloc ?_ _) | (with_reducible refine Keeps.setCell ?_ ?_ _) | (with_reducible refine Keeps.trans ?_ (After.keeps _)) | (with_reducible refine Keeps.trans ?_ (by with_reducible assumption)) | go_size)); (first | done | fail))⟩
  · have hl' : ¬ (40 : Int) < zs.length := by omega
    go_enter Try.func6, Try.ntmps6
    go_wp2_with (first
      | (go_at_call 13; refine (chainFirst_c _).mono ?_; rintro e w' ⟨rfl, K0⟩)
      | (go_at_call 14; refine (csize_c _ _).mono ?_; rintro e w' ⟨K, rfl, ⟨k3, k10, -⟩, hks⟩; have K0 := K0.trans hks; have HC := Has.new w' (cfgA 1 K 8 1 0 1) 25; have hcs : w.heap.size ≤ w'.heap.size := K0.size; have K0 := K0.alloc (.cells (cfgA 1 K 8 1 0 1) 25); generalize hcb : w'.heap.size = cb at *)
      | (go_at_call 15; refine (cmade_c K _ k3 k10).mono ?_; rintro e w' ⟨m, bb, X, P, rfl, hk, hm, hb, hX, hP, H⟩; have k0s := K0.size; have K0 := K0.trans hk; have hm := Nat.le_trans k0s hm; have hb := Nat.le_trans k0s hb; have HC := HC.keeps hk; have FX_ := (HC).facts; simp only [blockFacts, listFacts, cellsAt, Nat.reduceAdd, and_true, true_and, and_assoc] at FX_)
      | (go_at_call 29; refine (r11New_at K _ k3 k10).mono ?_; rintro e w' ⟨W, g, gb, Pl, rfl, hk2, hW, hg, hgb, hPl, D⟩; have hne : bb ≠ gb := (by obtain ⟨_, M9⟩ := H.mem; have := M9.hb.lt; omega); have k0s2 := K0.size; have K0 := K0.trans hk2; have hg := Nat.le_trans k0s2 hg; have hgb := Nat.le_trans k0s2 hgb; have H := H.keeps hk2; have HC := HC.keeps hk2)
      | (go_at_call 30; refine (chainPool_c H.hX).mono ?_; rintro e w' ⟨rfl, rfl⟩))
    have A0 := Lib.hid (And.intro H (And.intro D (And.intro HC K0)))
    clear H D HC K0 hk hks hk2 k0s k0s2 FX_ hW hPl hX hP hcb
    generalize hN : 9 * K + 6 = N at A0
    have HN := Lib.hid hN
    go_loopw [10] (fun iv wr => ∃ (k : Nat) (l r : List Int) (cc : Int), k ≤ zs.length ∧ iv = .int .i64 k ∧ ChAt wr m bb N X P 6 K 1 8 1 0 1 l cc ∧ RChAt wr W g gb N Pl 6 K 1 8 1 0 1 r cc ∧ Hid (Ag l r) ∧ Has wr cb (cfgA 1 K 8 1 0 1) 25 ∧ Keeps w wr ∧ 0 ≤ cc ∧ cc ≤ 11 * (k : Int)) (fun iv _ => zs.length - (intOf iv).toNat)
    case atStart => exact ⟨0, _, _, 0, by omega, rfl, A0.out.1, A0.out.2.1, Lib.hid (Ag.start2 _), A0.out.2.2.1, A0.out.2.2.2, by omega, by omega⟩
    case round =>
      clear A0
      obtain ⟨k, l, r, cc, hk, rfl, H, D, HA, HC, K0, c0, c1⟩ := hrel
      have hap := H.apart D hne
      have hk1 : Hid (((k : Int) + 1) = ((k + 1 : Nat) : Int)) := Lib.hid (by omega)
      by_cases hlt : k < zs.length
      · obtain ⟨ab, off, rfl, hab, hcl⟩ := HR.out (by rintro rfl; simp at hlt)
        have hzl : zs[k].length = 2 := HZ.out _ (List.getElem_mem hlt)
        obtain ⟨z0, z1, hz⟩ : ∃ a b, zs[k] = [a, b] := by
          match zs[k], hzl with
          | [a, b], _ => exact ⟨a, b, rfl⟩
        have hc0 := hcl k _ (List.getElem?_eq_getElem hlt) 0 (.int .i64 z0) (by rw [hz]; rfl)
        have hc1 := hcl k _ (List.getElem?_eq_getElem hlt) 1 (.int .i64 z1) (by rw [hz]; rfl)
        rw [← K0.cell hab] at hc0 hc1
        have hc0 : wr.cell? ⟨ab, off + k * 2, none⟩ = some (.int .i64 z0) := hc0
        have hc1 : wr.cell? ⟨ab, off + k * 2 + 1, none⟩ = some (.int .i64 z1) := hc1
        have hbw := Nat.lt_of_lt_of_le hab K0.size
        clear hcl hz hzl
        have hX0 : ∀ u : After wr, u.world.cell? ⟨ab, off + k * 2, none⟩ = some (.int .i64 z0) := fun u => (u.keeps.cell hbw).trans hc0
        have hX1 : ∀ u : After wr, u.world.cell? ⟨ab, off + k * 2 + 1, none⟩ = some (.int .i64 z1) := fun u => (u.keeps.cell hbw).trans hc1
        have hX2 : ∀ u : After wr, u.world.cell? ⟨cb, 1, none⟩ = some (.int .i64 K) := fun u => (HC.keeps u.keeps).cell 1
        have m0 := mod_bd z0 K (by omega)
        have m1 := mod_bd z1 ((K : Int) + 1) (by omega)
        have pk := wrapI_ok ((K : Int) + 1) (by omega) (by omega)
        have pz := wrapI_ok (z1 % ((K : Int) + 1) - 1) (by omega) (by omega)
        go_wp2
        (refine wp_region_after_lit (by kernel_rfl) (by kernel_rfl) ?_; (try simp only [List.append_eq, List.cons_append, List.nil_append]); (repeat (first | go_big_quiet_step (((go_at_call 16; exact calls_after_same (number_c _ _ _ (by omega) (by omega))))) | ((with_reducible refine wpQuiet_step (fun K hK => ?_)); go_simp; first | (refine hK _ ?_; clear hK K) | (apply Exists.intro; refine ⟨fun _ => ?_, hK _ ?_⟩; ((go_at_call 16; exact calls_after_same (number_c _ _ _ (by omega) (by omega)))); clear hK K) | (refine ⟨.bool false, fun _ => ?_, hK _ ?_⟩; (simp; done); clear hK K) | (refine ⟨.bool true, fun _ => ?_, hK _ ?_⟩; (simp; done); clear hK K)))); refine wpQuiet_nil ?_; intro _ hw'; obtain ⟨uq, hw''⟩ := hw'; subst hw'')
        have HK1 := uq.keeps
        generalize uq.world = W1 at HK1 ⊢
        clear uq hX0 hX1 hX2 hc0 hc1 pk pz
        have H := H.keeps HK1
        have D := D.keeps HK1
        have HC := HC.keeps HK1
        have K0 := K0.trans HK1
        clear HK1
        generalize z0 % (K : Int) = u at *
        obtain ⟨t, ht⟩ : ∃ t, z1 % ((K : Int) + 1) - 1 = t := ⟨_, rfl⟩
        have t0 : -1 ≤ t := by omega
        have t1 : t < K := by omega
        rw [ht]
        clear ht m1
        obtain ⟨u0, u1⟩ := m0
        obtain ⟨q, hq⟩ : ∃ q : Nat, (((6 : Nat) : Int) + u) = (q : Int) := ⟨(6 + u).toNat, by omega⟩
        have HQ := Lib.hid hq
        have tt : t = -1 ∨ inB t K = true := by
          by_cases h0 : 0 ≤ t
          · exact .inr (inB_yes h0 t1)
          · left; omega
        have cs0 : cc < 1000000 := by omega
        have cs1 : cc + 1 < 1000000 := by omega
        have ok2 := H.ok.len
        have HAg : Hid (Ag (l.set q (t + 1)) (r.set q (t + 1))) := Lib.hid (HA.out.set q (t + 1) (by omega))
        have UB := inB_yes u0 u1
        have HTT := Lib.hid tt
        have HUB := Lib.hid UB
        have HAP := Lib.hid hap
        have ncm : cb ∉ [m, bb] := by
          obtain ⟨x9, M9⟩ := H.mem
          simp only [List.mem_cons, List.not_mem_nil, or_false, not_or]
          exact ⟨HC.ne M9.hg (by decide), HC.ne M9.hb (by decide)⟩
        have ncg : cb ∉ [g, gb] := by
          simp only [List.mem_cons, List.not_mem_nil, or_false, not_or]
          exact ⟨HC.ne D.M.hg (by decide), HC.ne D.M.hb (by decide)⟩
        clear hq tt UB ok2 hap
        go_wp2_with (first
          | (go_at_call 17; refine (csets_c u t q H HUB.out HTT.out HQ.out cs0).mono ?_; rintro e w' ⟨rfl, hu, H⟩; have HC := HC.upd hu ncm; have D := D.upd hu HAP.out.2.1 HAP.out.2.2.1 HAP.out.2.2.2.1 HAP.out.2.2.2.2; have K0 := K0.upd hu (ge_mb hm hb))
          | (go_at_call 31; refine (rset_c (Has.new _ _ _) (D.keeps ((Keeps.refl _).alloc _)) u0 u1 t0 t1 HQ.out cs0).mono ?_; rintro e w' ⟨rfl, hu2, D⟩; have hU := Upd.fresh (S := [g, gb]) (Upd.of_keeps ((Keeps.refl _).alloc _)) hu2 (by simp); have H := H.updS hU HAP.out.1.1 HAP.out.1.2.1 HAP.out.1.2.2.1 HAP.out.1.2.2.2; have HC := HC.upd hU ncg; have K0 := K0.upd hU (ge_mb hg hgb)))
        clear hu hu2 hU
        obtain ⟨Sp, E, HWW⟩ := D.hW
        have HMg := D.M.hg
        have HMb := D.M.hb
        have hlN := H.ok.len
        have hrN := D.ok.len
        have hlk1 := H.ok.lk1
        have hqN0 : q < N := by have := HQ.out; omega
        rw [List.length_set] at hlN hrN
        have HP0 : Hid ((l.set q (t + 1))[q]? = some (t + 1)) := Lib.hid (List.getElem?_set_self (by omega))
        have e0 : (u64s (r.set q (t + 1)))[q]? = some (.int .u64 (t + 1)) := u64s_at (List.getElem?_set_self (by omega))
        have hq0 : (0 : Int) ≤ (q : Int) := by omega
        have hqN : (q : Int) < (N : Int) := by omega
        have HQ3 : Hid (3 + 1 + 1 + 1 + u = (q : Int)) := Lib.hid (by have := HQ.out; omega)
        have HMay := Lib.hid H.may
        have HLt := Lib.hid (HAg.out.list K K t)
        have hln : (listFrom 6 K (l.set q (t + 1)) K t).length ≤ 1000000 := by have := lf_len (lk := 6) (n := K) (l := l.set q (t + 1)) K t; omega
        clear hlN hrN hlk1
        go_region_held3 (fun y => (((((((y.cell? ⟨cb, 0, none⟩ = some (.int .i64 1) ∧ y.cell? ⟨cb, 1, none⟩ = some (.int .i64 K)) ∧ y.cell? ⟨cb, 2, none⟩ = some (.int .i64 8)) ∧ y.cell? ⟨cb, 3, none⟩ = some (.int .i64 1)) ∧ y.cell? ⟨cb, 4, none⟩ = some (.int .i64 0)) ∧ y.cell? ⟨cb, 5, none⟩ = some (.int .i64 1)) ∧ y.cell? ⟨W, 6, none⟩ = some (.pointer (some ⟨g, 0, none⟩))) ∧ y.cell? ⟨g, 0, none⟩ = some (.slice (some ⟨gb, 0, none⟩) N N)) ∧ y.cell? ⟨gb, q, none⟩ = some (.int .u64 (t + 1))) (((repeat' (with_reducible apply And.intro)) <;> (apply Has.cellv; (focus ((repeat (first | (with_reducible assumption) | (with_reducible exact Has.new _ _ _) | (with_reducible exact Has.new1 _ _ _ _) | (with_reducible exact Has.new2 _ _ _ _ _) | (with_reducible refine Has.newAt ?_; (simp; done)) | (with_reducible apply Has.set) | (with_reducible apply Has.far; (case hn => first | assumption | (simp; done) | (intro e_; simp at e_; omega))) | (with_reducible apply Has.alloc) | (with_reducible apply Has.drewN) | (with_reducible apply Has.drew) | (with_reducible refine Has.keeps ?_ (by with_reducible assumption)))))); (first | (with_reducible assumption) | rfl | (simp; done) | fail))))
          (first
            | (go_at_call 21; refine (link_in 1 K 8 1 0 1 _ _ HMay.out u0 u1).mono ?_; rintro e w' ⟨rfl, hk5⟩; rw [HQ3.out]; have H := (H.keeps (by ((repeat' (first | (with_reducible exact Keeps.refl _) | (with_reducible assumption) | (with_reducible refine Keeps.drewN ?_ _) | (with_reducible refine Keeps.drew ?_) | (with_reducible refine Keeps.alloc ?_ _) | (with_reducible refine Keeps.setCell ?_ ?_ _) | (with_reducible refine Keeps.trans ?_ (After.keeps _)) | (with_reducible refine Keeps.trans ?_ (by with_reducible assumption)) | go_size)); (first | done | fail)))).keeps hk5; have D := (D.keeps (by ((repeat' (first | (with_reducible exact Keeps.refl _) | (with_reducible assumption) | (with_reducible refine Keeps.drewN ?_ _) | (with_reducible refine Keeps.drew ?_) | (with_reducible refine Keeps.alloc ?_ _) | (with_reducible refine Keeps.setCell ?_ ?_ _) | (with_reducible refine Keeps.trans ?_ (After.keeps _)) | (with_reducible refine Keeps.trans ?_ (by with_reducible assumption)) | go_size)); (first | done | fail)))).keeps hk5; have HC := (HC.keeps (by ((repeat' (first | (with_reducible exact Keeps.refl _) | (with_reducible assumption) | (with_reducible refine Keeps.drewN ?_ _) | (with_reducible refine Keeps.drew ?_) | (with_reducible refine Keeps.alloc ?_ _) | (with_reducible refine Keeps.setCell ?_ ?_ _) | (with_reducible refine Keeps.trans ?_ (After.keeps _)) | (with_reducible refine Keeps.trans ?_ (by with_reducible assumption)) | go_size)); (first | done | fail)))).keeps hk5; have HWW := (HWW.keeps (by ((repeat' (first | (with_reducible exact Keeps.refl _) | (with_reducible assumption) | (with_reducible refine Keeps.drewN ?_ _) | (with_reducible refine Keeps.drew ?_) | (with_reducible refine Keeps.alloc ?_ _) | (with_reducible refine Keeps.setCell ?_ ?_ _) | (with_reducible refine Keeps.trans ?_ (After.keeps _)) | (with_reducible refine Keeps.trans ?_ (by with_reducible assumption)) | go_size)); (first | done | fail)))).keeps hk5; have HMg := (HMg.keeps (by ((repeat' (first | (with_reducible exact Keeps.refl _) | (with_reducible assumption) | (with_reducible refine Keeps.drewN ?_ _) | (with_reducible refine Keeps.drew ?_) | (with_reducible refine Keeps.alloc ?_ _) | (with_reducible refine Keeps.setCell ?_ ?_ _) | (with_reducible refine Keeps.trans ?_ (After.keeps _)) | (with_reducible refine Keeps.trans ?_ (by with_reducible assumption)) | go_size)); (first | done | fail)))).keeps hk5; have HMb := (HMb.keeps (by ((repeat' (first | (with_reducible exact Keeps.refl _) | (with_reducible assumption) | (with_reducible refine Keeps.drewN ?_ _) | (with_reducible refine Keeps.drew ?_) | (with_reducible refine Keeps.alloc ?_ _) | (with_reducible refine Keeps.setCell ?_ ?_ _) | (with_reducible refine Keeps.trans ?_ (After.keeps _)) | (with_reducible refine Keeps.trans ?_ (by with_reducible assumption)) | go_size)); (first | done | fail)))).keeps hk5; have K0 := (K0.trans (by ((repeat' (first | (with_reducible exact Keeps.refl _) | (with_reducible assumption) | (with_reducible refine Keeps.drewN ?_ _) | (with_reducible refine Keeps.drew ?_) | (with_reducible refine Keeps.alloc ?_ _) | (with_reducible refine Keeps.setCell ?_ ?_ _) | (with_reducible refine Keeps.trans ?_ (After.keeps _)) | (with_reducible refine Keeps.trans ?_ (by with_reducible assumption)) | go_size)); (first | done | fail)))).trans hk5)
            | (go_at_call 33; refine (rlink_in 1 K 8 1 0 1 _ _ HMay.out u0 u1).mono ?_; rintro e w' ⟨rfl, hk5⟩; rw [HQ3.out]; have H := (H.keeps (by ((repeat' (first | (with_reducible exact Keeps.refl _) | (with_reducible assumption) | (with_reducible refine Keeps.drewN ?_ _) | (with_reducible refine Keeps.drew ?_) | (with_reducible refine Keeps.alloc ?_ _) | (with_reducible refine Keeps.setCell ?_ ?_ _) | (with_reducible refine Keeps.trans ?_ (After.keeps _)) | (with_reducible refine Keeps.trans ?_ (by with_reducible assumption)) | go_size)); (first | done | fail)))).keeps hk5; have D := (D.keeps (by ((repeat' (first | (with_reducible exact Keeps.refl _) | (with_reducible assumption) | (with_reducible refine Keeps.drewN ?_ _) | (with_reducible refine Keeps.drew ?_) | (with_reducible refine Keeps.alloc ?_ _) | (with_reducible refine Keeps.setCell ?_ ?_ _) | (with_reducible refine Keeps.trans ?_ (After.keeps _)) | (with_reducible refine Keeps.trans ?_ (by with_reducible assumption)) | go_size)); (first | done | fail)))).keeps hk5; have HC := (HC.keeps (by ((repeat' (first | (with_reducible exact Keeps.refl _) | (with_reducible assumption) | (with_reducible refine Keeps.drewN ?_ _) | (with_reducible refine Keeps.drew ?_) | (with_reducible refine Keeps.alloc ?_ _) | (with_reducible refine Keeps.setCell ?_ ?_ _) | (with_reducible refine Keeps.trans ?_ (After.keeps _)) | (with_reducible refine Keeps.trans ?_ (by with_reducible assumption)) | go_size)); (first | done | fail)))).keeps hk5; have HWW := (HWW.keeps (by ((repeat' (first | (with_reducible exact Keeps.refl _) | (with_reducible assumption) | (with_reducible refine Keeps.drewN ?_ _) | (with_reducible refine Keeps.drew ?_) | (with_reducible refine Keeps.alloc ?_ _) | (with_reducible refine Keeps.setCell ?_ ?_ _) | (with_reducible refine Keeps.trans ?_ (After.keeps _)) | (with_reducible refine Keeps.trans ?_ (by with_reducible assumption)) | go_size)); (first | done | fail)))).keeps hk5; have HMg := (HMg.keeps (by ((repeat' (first | (with_reducible exact Keeps.refl _) | (with_reducible assumption) | (with_reducible refine Keeps.drewN ?_ _) | (with_reducible refine Keeps.drew ?_) | (with_reducible refine Keeps.alloc ?_ _) | (with_reducible refine Keeps.setCell ?_ ?_ _) | (with_reducible refine Keeps.trans ?_ (After.keeps _)) | (with_reducible refine Keeps.trans ?_ (by with_reducible assumption)) | go_size)); (first | done | fail)))).keeps hk5; have HMb := (HMb.keeps (by ((repeat' (first | (with_reducible exact Keeps.refl _) | (with_reducible assumption) | (with_reducible refine Keeps.drewN ?_ _) | (with_reducible refine Keeps.drew ?_) | (with_reducible refine Keeps.alloc ?_ _) | (with_reducible refine Keeps.setCell ?_ ?_ _) | (with_reducible refine Keeps.trans ?_ (After.keeps _)) | (with_reducible refine Keeps.trans ?_ (by with_reducible assumption)) | go_size)); (first | done | fail)))).keeps hk5; have K0 := (K0.trans (by ((repeat' (first | (with_reducible exact Keeps.refl _) | (with_reducible assumption) | (with_reducible refine Keeps.drewN ?_ _) | (with_reducible refine Keeps.drew ?_) | (with_reducible refine Keeps.alloc ?_ _) | (with_reducible refine Keeps.setCell ?_ ?_ _) | (with_reducible refine Keeps.trans ?_ (After.keeps _)) | (with_reducible refine Keeps.trans ?_ (by with_reducible assumption)) | go_size)); (first | done | fail)))).trans hk5)
            | (go_at_call 32; refine (mpeek_in H.mem.choose_spec q HP0.out).mono ?_; rintro e w' ⟨rfl, rfl⟩)
            | (go_at_call 19; refine (xlist_any t H t0 t1).mono ?_; rintro e w' ⟨v5, rfl, hk5, R5⟩; have H := (H.keeps (by ((repeat' (first | (with_reducible exact Keeps.refl _) | (with_reducible assumption) | (with_reducible refine Keeps.drewN ?_ _) | (with_reducible refine Keeps.drew ?_) | (with_reducible refine Keeps.alloc ?_ _) | (with_reducible refine Keeps.setCell ?_ ?_ _) | (with_reducible refine Keeps.trans ?_ (After.keeps _)) | (with_reducible refine Keeps.trans ?_ (by with_reducible assumption)) | go_size)); (first | done | fail)))).keeps hk5; have D := (D.keeps (by ((repeat' (first | (with_reducible exact Keeps.refl _) | (with_reducible assumption) | (with_reducible refine Keeps.drewN ?_ _) | (with_reducible refine Keeps.drew ?_) | (with_reducible refine Keeps.alloc ?_ _) | (with_reducible refine Keeps.setCell ?_ ?_ _) | (with_reducible refine Keeps.trans ?_ (After.keeps _)) | (with_reducible refine Keeps.trans ?_ (by with_reducible assumption)) | go_size)); (first | done | fail)))).keeps hk5; have HC := (HC.keeps (by ((repeat' (first | (with_reducible exact Keeps.refl _) | (with_reducible assumption) | (with_reducible refine Keeps.drewN ?_ _) | (with_reducible refine Keeps.drew ?_) | (with_reducible refine Keeps.alloc ?_ _) | (with_reducible refine Keeps.setCell ?_ ?_ _) | (with_reducible refine Keeps.trans ?_ (After.keeps _)) | (with_reducible refine Keeps.trans ?_ (by with_reducible assumption)) | go_size)); (first | done | fail)))).keeps hk5; have HWW := (HWW.keeps (by ((repeat' (first | (with_reducible exact Keeps.refl _) | (with_reducible assumption) | (with_reducible refine Keeps.drewN ?_ _) | (with_reducible refine Keeps.drew ?_) | (with_reducible refine Keeps.alloc ?_ _) | (with_reducible refine Keeps.setCell ?_ ?_ _) | (with_reducible refine Keeps.trans ?_ (After.keeps _)) | (with_reducible refine Keeps.trans ?_ (by with_reducible assumption)) | go_size)); (first | done | fail)))).keeps hk5; have HMg := (HMg.keeps (by ((repeat' (first | (with_reducible exact Keeps.refl _) | (with_reducible assumption) | (with_reducible refine Keeps.drewN ?_ _) | (with_reducible refine Keeps.drew ?_) | (with_reducible refine Keeps.alloc ?_ _) | (with_reducible refine Keeps.setCell ?_ ?_ _) | (with_reducible refine Keeps.trans ?_ (After.keeps _)) | (with_reducible refine Keeps.trans ?_ (by with_reducible assumption)) | go_size)); (first | done | fail)))).keeps hk5; have HMb := (HMb.keeps (by ((repeat' (first | (with_reducible exact Keeps.refl _) | (with_reducible assumption) | (with_reducible refine Keeps.drewN ?_ _) | (with_reducible refine Keeps.drew ?_) | (with_reducible refine Keeps.alloc ?_ _) | (with_reducible refine Keeps.setCell ?_ ?_ _) | (with_reducible refine Keeps.trans ?_ (After.keeps _)) | (with_reducible refine Keeps.trans ?_ (by with_reducible assumption)) | go_size)); (first | done | fail)))).keeps hk5; have K0 := (K0.trans (by ((repeat' (first | (with_reducible exact Keeps.refl _) | (with_reducible assumption) | (with_reducible refine Keeps.drewN ?_ _) | (with_reducible refine Keeps.drew ?_) | (with_reducible refine Keeps.alloc ?_ _) | (with_reducible refine Keeps.setCell ?_ ?_ _) | (with_reducible refine Keeps.trans ?_ (After.keeps _)) | (with_reducible refine Keeps.trans ?_ (by with_reducible assumption)) | go_size)); (first | done | fail)))).trans hk5)
            | (go_at_call 34; refine (rbehind_c t D t0 t1).mono ?_; rintro e w' ⟨v6, rfl, hk5, R6⟩; rw [← HLt.out] at R6; have R5 := R5.keeps hk5; have H := (H.keeps (by ((repeat' (first | (with_reducible exact Keeps.refl _) | (with_reducible assumption) | (with_reducible refine Keeps.drewN ?_ _) | (with_reducible refine Keeps.drew ?_) | (with_reducible refine Keeps.alloc ?_ _) | (with_reducible refine Keeps.setCell ?_ ?_ _) | (with_reducible refine Keeps.trans ?_ (After.keeps _)) | (with_reducible refine Keeps.trans ?_ (by with_reducible assumption)) | go_size)); (first | done | fail)))).keeps hk5; have D := (D.keeps (by ((repeat' (first | (with_reducible exact Keeps.refl _) | (with_reducible assumption) | (with_reducible refine Keeps.drewN ?_ _) | (with_reducible refine Keeps.drew ?_) | (with_reducible refine Keeps.alloc ?_ _) | (with_reducible refine Keeps.setCell ?_ ?_ _) | (with_reducible refine Keeps.trans ?_ (After.keeps _)) | (with_reducible refine Keeps.trans ?_ (by with_reducible assumption)) | go_size)); (first | done | fail)))).keeps hk5; have HC := (HC.keeps (by ((repeat' (first | (with_reducible exact Keeps.refl _) | (with_reducible assumption) | (with_reducible refine Keeps.drewN ?_ _) | (with_reducible refine Keeps.drew ?_) | (with_reducible refine Keeps.alloc ?_ _) | (with_reducible refine Keeps.setCell ?_ ?_ _) | (with_reducible refine Keeps.trans ?_ (After.keeps _)) | (with_reducible refine Keeps.trans ?_ (by with_reducible assumption)) | go_size)); (first | done | fail)))).keeps hk5; have HWW := (HWW.keeps (by ((repeat' (first | (with_reducible exact Keeps.refl _) | (with_reducible assumption) | (with_reducible refine Keeps.drewN ?_ _) | (with_reducible refine Keeps.drew ?_) | (with_reducible refine Keeps.alloc ?_ _) | (with_reducible refine Keeps.setCell ?_ ?_ _) | (with_reducible refine Keeps.trans ?_ (After.keeps _)) | (with_reducible refine Keeps.trans ?_ (by with_reducible assumption)) | go_size)); (first | done | fail)))).keeps hk5; have HMg := (HMg.keeps (by ((repeat' (first | (with_reducible exact Keeps.refl _) | (with_reducible assumption) | (with_reducible refine Keeps.drewN ?_ _) | (with_reducible refine Keeps.drew ?_) | (with_reducible refine Keeps.alloc ?_ _) | (with_reducible refine Keeps.setCell ?_ ?_ _) | (with_reducible refine Keeps.trans ?_ (After.keeps _)) | (with_reducible refine Keeps.trans ?_ (by with_reducible assumption)) | go_size)); (first | done | fail)))).keeps hk5; have HMb := (HMb.keeps (by ((repeat' (first | (with_reducible exact Keeps.refl _) | (with_reducible assumption) | (with_reducible refine Keeps.drewN ?_ _) | (with_reducible refine Keeps.drew ?_) | (with_reducible refine Keeps.alloc ?_ _) | (with_reducible refine Keeps.setCell ?_ ?_ _) | (with_reducible refine Keeps.trans ?_ (After.keeps _)) | (with_reducible refine Keeps.trans ?_ (by with_reducible assumption)) | go_size)); (first | done | fail)))).keeps hk5; have K0 := (K0.trans (by ((repeat' (first | (with_reducible exact Keeps.refl _) | (with_reducible assumption) | (with_reducible refine Keeps.drewN ?_ _) | (with_reducible refine Keeps.drew ?_) | (with_reducible refine Keeps.alloc ?_ _) | (with_reducible refine Keeps.setCell ?_ ?_ _) | (with_reducible refine Keeps.trans ?_ (After.keeps _)) | (with_reducible refine Keeps.trans ?_ (by with_reducible assumption)) | go_size)); (first | done | fail)))).trans hk5)
            | (go_at_call 22; refine (sameInts_yes _ _ _ _ R5.reads R6.reads hln).mono ?_; rintro e w' ⟨rfl, hk5⟩; have H := (H.keeps (by ((repeat' (first | (with_reducible exact Keeps.refl _) | (with_reducible assumption) | (with_reducible refine Keeps.drewN ?_ _) | (with_reducible refine Keeps.drew ?_) | (with_reducible refine Keeps.alloc ?_ _) | (with_reducible refine Keeps.setCell ?_ ?_ _) | (with_reducible refine Keeps.trans ?_ (After.keeps _)) | (with_reducible refine Keeps.trans ?_ (by with_reducible assumption)) | go_size)); (first | done | fail)))).keeps hk5; have D := (D.keeps (by ((repeat' (first | (with_reducible exact Keeps.refl _) | (with_reducible assumption) | (with_reducible refine Keeps.drewN ?_ _) | (with_reducible refine Keeps.drew ?_) | (with_reducible refine Keeps.alloc ?_ _) | (with_reducible refine Keeps.setCell ?_ ?_ _) | (with_reducible refine Keeps.trans ?_ (After.keeps _)) | (with_reducible refine Keeps.trans ?_ (by with_reducible assumption)) | go_size)); (first | done | fail)))).keeps hk5; have HC := (HC.keeps (by ((repeat' (first | (with_reducible exact Keeps.refl _) | (with_reducible assumption) | (with_reducible refine Keeps.drewN ?_ _) | (with_reducible refine Keeps.drew ?_) | (with_reducible refine Keeps.alloc ?_ _) | (with_reducible refine Keeps.setCell ?_ ?_ _) | (with_reducible refine Keeps.trans ?_ (After.keeps _)) | (with_reducible refine Keeps.trans ?_ (by with_reducible assumption)) | go_size)); (first | done | fail)))).keeps hk5; have HWW := (HWW.keeps (by ((repeat' (first | (with_reducible exact Keeps.refl _) | (with_reducible assumption) | (with_reducible refine Keeps.drewN ?_ _) | (with_reducible refine Keeps.drew ?_) | (with_reducible refine Keeps.alloc ?_ _) | (with_reducible refine Keeps.setCell ?_ ?_ _) | (with_reducible refine Keeps.trans ?_ (After.keeps _)) | (with_reducible refine Keeps.trans ?_ (by with_reducible assumption)) | go_size)); (first | done | fail)))).keeps hk5; have HMg := (HMg.keeps (by ((repeat' (first | (with_reducible exact Keeps.refl _) | (with_reducible assumption) | (with_reducible refine Keeps.drewN ?_ _) | (with_reducible refine Keeps.drew ?_) | (with_reducible refine Keeps.alloc ?_ _) | (with_reducible refine Keeps.setCell ?_ ?_ _) | (with_reducible refine Keeps.trans ?_ (After.keeps _)) | (with_reducible refine Keeps.trans ?_ (by with_reducible assumption)) | go_size)); (first | done | fail)))).keeps hk5; have HMb := (HMb.keeps (by ((repeat' (first | (with_reducible exact Keeps.refl _) | (with_reducible assumption) | (with_reducible refine Keeps.drewN ?_ _) | (with_reducible refine Keeps.drew ?_) | (with_reducible refine Keeps.alloc ?_ _) | (with_reducible refine Keeps.setCell ?_ ?_ _) | (with_reducible refine Keeps.trans ?_ (After.keeps _)) | (with_reducible refine Keeps.trans ?_ (by with_reducible assumption)) | go_size)); (first | done | fail)))).keeps hk5; have K0 := (K0.trans (by ((repeat' (first | (with_reducible exact Keeps.refl _) | (with_reducible assumption) | (with_reducible refine Keeps.drewN ?_ _) | (with_reducible refine Keeps.drew ?_) | (with_reducible refine Keeps.alloc ?_ _) | (with_reducible refine Keeps.setCell ?_ ?_ _) | (with_reducible refine Keeps.trans ?_ (After.keeps _)) | (with_reducible refine Keeps.trans ?_ (by with_reducible assumption)) | go_size)); (first | done | fail)))).trans hk5))
        have HH2 := Lib.hid (And.intro H (And.intro D (And.intro HC K0)))
        clear H D HC HWW HMg HMb K0 R5 R6 HLt hln e0 hq0 hqN HQ3 HMay HP0 hqN0 hk5
        generalize l.set q (t + 1) = l2 at *
        generalize r.set q (t + 1) = r2 at *
        obtain ⟨L, hL⟩ : ∃ L, listFrom 6 K l2 K u = L := ⟨_, rfl⟩
        have hLr : listFrom 6 K r2 K u = L := by rw [← HAg.out.list K K u]; exact hL
        have hw0 : ∀ v ∈ r2, 0 ≤ v := fun v hv => (HH2.out.2.1.ok.words v hv).1
        have HF := Lib.hid (lf_facts hw0 u0 u1 hLr)
        have hLK : L.length ≤ K := HF.out.2.2.1
        have hL1 : 1 ≤ L.length := HF.out.2.1
        have HLL := Lib.hid hL
        clear hL hLr hw0
        have H := HH2.out.1
        have D := HH2.out.2.1
        have HC := HH2.out.2.2.1
        have K0 := HH2.out.2.2.2
        clear HH2
        have K29 : K ≤ 29 := by omega
        go_wp2_with (first
          | (go_at_call 18; refine (cwalks_c u H HUB.out K29 cs1).mono ?_; rintro e w' ⟨rv, rfl, hu, H, R⟩; rw [HLL.out] at R H ⊢; have HC := HC.upd hu ncm; have D := D.upd hu HAP.out.2.1 HAP.out.2.2.1 HAP.out.2.2.2.1 HAP.out.2.2.2.2; have K0 := K0.upd hu (ge_mb hm hb); have R := R.mono (B' := 0) (Nat.zero_le _); generalize w' = Wp at *)
          | (go_at_call 35; refine (rmkWalk_c W u _).mono ?_; rintro e w' ⟨T, lb, rfl, hk5, hT, HT, RT⟩; have BB := Lib.hid (And.intro H (And.intro R (And.intro HC (And.intro K0 D)))); have D := D.keeps hk5; have hU0 := Upd.of_keeps (S := [g, gb]) hk5))
        have eR : ivals [u] = ivals (L.take (0 + 1)) := by rw [Nat.zero_add, HF.out.1]
        rw [eR] at RT
        clear eR
        have A1 := Lib.hid (And.intro HT (And.intro RT (And.intro D hU0)))
        clear HT RT D hU0 H R HC K0 hk5 hu
        go_loopw [15] (fun sv wq => ∃ (j : Nat) (v : Value), j ≤ L.length ∧ sv = .int .i64 ((L.length : Int) - j) ∧ Has wq T (rwalkOf W v (decide (j = L.length))) 77 ∧ Row Wp.heap.size 3 wq v (ivals (L.take (j + 1))) ∧ RChAt wq W g gb N Pl 6 K 1 8 1 0 1 r2 (cc + 1 + j) ∧ Upd [g, gb] Wp wq) (fun sv _ => (intOf sv).toNat)
        case atStart => exact ⟨0, .slice (some ⟨lb, 0, none⟩) 1 1, by omega, by simp, by rw [decide_eq_false (by omega)]; exact A1.out.1, A1.out.2.1, by rw [show cc + 1 + ((0 : Nat) : Int) = cc + 1 by omega]; exact A1.out.2.2.1, A1.out.2.2.2⟩
        case round =>
          clear A1
          obtain ⟨j, v, hj, rfl, HT, R, D, hU⟩ := hrel
          have szr := hU.size
          have hro := R.own
          have pw := wrapI_ok ((L.length : Int) - j - 1) (by omega) (by omega)
          have HEC : Hid (cc + 1 + (j : Int) + 1 = cc + 1 + ((j + 1 : Nat) : Int)) := Lib.hid (by omega)
          have HEJ : Hid ((L.length : Int) - (j : Int) - 1 = (L.length : Int) - ((j + 1 : Nat) : Int)) := Lib.hid (by omega)
          have hcj : cc + 1 + (j : Int) < 1000000000 := by omega
          by_cases hlt2 : j < L.length
          · rw [decide_eq_false (by omega)] at HT
            have hzl : (L.take (j + 1)).length = j + 1 := by rw [List.length_take]; omega
            have hzg : (L.take (j + 1)).getD j 0 = L.getD j 0 := by rw [List.getD_eq_getElem?_getD, List.getElem?_take_of_lt (by omega), ← List.getD_eq_getElem?_getD]
            have hzb : Hid (0 ≤ (L.take (j + 1)).getD j 0 ∧ (L.take (j + 1)).getD j 0 < K) := Lib.hid (by rw [hzg]; exact HF.out.2.2.2.1 j hlt2)
            have HZL := Lib.hid hzl
            have HZG := Lib.hid hzg
            clear hzl hzg
            by_cases hlt3 : j + 1 < L.length
            · have HTt : Hid (belowI K (r2.getD (((6 : Nat) : Int) + (L.take (j + 1)).getD j 0).toNat 0) = L.getD (j + 1) 0) := Lib.hid (by rw [HZG.out]; exact (HF.out.2.2.2.2.1 j hlt3).1)
              have HS : Hid (L.take (j + 1) ++ [L.getD (j + 1) 0] = L.take (j + 1 + 1)) := Lib.hid (take_snoc0 hlt3)
              have hjK : j + 1 < K := by omega
              go_wp2_with (go_at_call 36; refine (rwalk_on (zs := L.take (j + 1)) (k := j) HT D R HZL.out hzb.out HTt.out (HF.out.2.2.2.2.1 j hlt3).2 hjK szr hcj).mono ?_; rintro e w' ⟨rfl, v2, hu, HT, D, R, hO⟩; rw [HS.out] at R; rw [HEC.out] at D; have hU := hU.fresh hu (in_po hT (fun y hy => (hro y hy).1)))
              go_roundw
              case rel => exact ⟨j + 1, v2, by omega, by rw [← HEJ.out], by rw [decide_eq_false (by omega)]; exact HT, R, D, hU⟩
              case measure => simp [intOf] <;> omega
            · have HTt : Hid (belowI K (r2.getD (((6 : Nat) : Int) + (L.take (j + 1)).getD j 0).toNat 0) < 0 ∨ j + 1 = K) := Lib.hid (by
                rw [HZG.out]
                exact HF.out.2.2.2.2.2 j (by omega))
              have HS : Hid (L.take (j + 1) = L.take (j + 1 + 1)) := Lib.hid (by rw [List.take_of_length_le (by omega), List.take_of_length_le (by omega)])
              have hj9 : j ≤ 100000 := by omega
              have hgT : ∀ y ∈ [g, gb, T], y ∈ [g, gb] ∨ Wp.heap.size ≤ y := by
                intro y hy
                simp only [List.mem_cons, List.not_mem_nil, or_false] at hy ⊢
                rcases hy with rfl | rfl | rfl
                · exact .inl (.inl rfl)
                · exact .inl (.inr rfl)
                · exact .inr hT
              go_wp2_with (go_at_call 36; refine (rwalk_end (zs := L.take (j + 1)) (k := j) HT D R HZL.out hzb.out rfl HTt.out hj9 hcj).mono ?_; rintro e w' ⟨rfl, hu, HT, D, R⟩; rw [HS.out] at R; rw [HEC.out] at D; have hU := hU.fresh hu hgT)
              go_roundw
              case rel => exact ⟨j + 1, v, by omega, by rw [← HEJ.out], by rw [decide_eq_true (by omega)]; exact HT, R, D, hU⟩
              case measure => simp [intOf] <;> omega
          · obtain rfl : j = L.length := by omega
            rw [decide_eq_true rfl] at HT
            rw [List.take_of_length_le (by omega)] at R
            rw [show (L.length : Int) - ((L.length : Nat) : Int) = 0 by omega]
            go_wp2_with (go_at_call 36; refine (rwalk_done HT).mono ?_; rintro e w' ⟨rfl, rfl⟩)
            have R0 := BB.out.2.1
            have R0 := R0.upd hU (fun x hx => by
              simp only [List.mem_cons, List.not_mem_nil, or_false, not_or]
              exact ⟨R0.ne BB.out.2.2.2.2.M.hg (by decide) x hx, R0.ne BB.out.2.2.2.2.M.hb (by decide) x hx⟩)
            have H := BB.out.1.updS hU HAP.out.1.1 HAP.out.1.2.1 HAP.out.1.2.2.1 HAP.out.1.2.2.2
            have HC := BB.out.2.2.1.upd hU ncg
            have K0 := BB.out.2.2.2.1.upd hU (ge_mb hg hgb)
            obtain ⟨Sp9, E9, HWW⟩ := D.hW
            have HMg := D.M.hg
            obtain ⟨va, vcap, hv, -⟩ := R.reads
            subst hv
            have hLm9 : L.length ≤ 1000000 := by omega
            clear hro hU pw HEC HEJ hcj
            go_region_held3 (fun y => (y.cell? ⟨T, 1, none⟩ = some (.slice va L.length vcap) ∧ y.cell? ⟨W, 6, none⟩ = some (.pointer (some ⟨g, 0, none⟩))) ∧ y.cell? ⟨g, 1, none⟩ = some (.int .i64 (cc + 1 + L.length))) (((repeat' (with_reducible apply And.intro)) <;> (apply Has.cellv; (focus ((repeat (first | (with_reducible assumption) | (with_reducible exact Has.new _ _ _) | (with_reducible exact Has.new1 _ _ _ _) | (with_reducible exact Has.new2 _ _ _ _ _) | (with_reducible refine Has.newAt ?_; (simp; done)) | (with_reducible apply Has.set) | (with_reducible apply Has.far; (case hn => first | assumption | (simp; done) | (intro e_; simp at e_; omega))) | (with_reducible apply Has.alloc) | (with_reducible apply Has.drewN) | (with_reducible apply Has.drew) | (with_reducible refine Has.keeps ?_ (by with_reducible assumption)))))); (first | (with_reducible assumption) | rfl | (simp; done) | fail))))
              (first
                | (go_at_call 22; refine (sameInts_yes _ _ L _ (R0.keeps (by ((repeat' (first | (with_reducible exact Keeps.refl _) | (with_reducible assumption) | (with_reducible refine Keeps.drewN ?_ _) | (with_reducible refine Keeps.drew ?_) | (with_reducible refine Keeps.alloc ?_ _) | (with_reducible refine Keeps.setCell ?_ ?_ _) | (with_reducible refine Keeps.trans ?_ (After.keeps _)) | (with_reducible refine Keeps.trans ?_ (by with_reducible assumption)) | go_size)); (first | done | fail)))).reads (R.keeps (by ((repeat' (first | (with_reducible exact Keeps.refl _) | (with_reducible assumption) | (with_reducible refine Keeps.drewN ?_ _) | (with_reducible refine Keeps.drew ?_) | (with_reducible refine Keeps.alloc ?_ _) | (with_reducible refine Keeps.setCell ?_ ?_ _) | (with_reducible refine Keeps.trans ?_ (After.keeps _)) | (with_reducible refine Keeps.trans ?_ (by with_reducible assumption)) | go_size)); (first | done | fail)))).reads hLm9).mono ?_; rintro e w' ⟨rfl, hk5⟩; have H := (H.keeps (by ((repeat' (first | (with_reducible exact Keeps.refl _) | (with_reducible assumption) | (with_reducible refine Keeps.drewN ?_ _) | (with_reducible refine Keeps.drew ?_) | (with_reducible refine Keeps.alloc ?_ _) | (with_reducible refine Keeps.setCell ?_ ?_ _) | (with_reducible refine Keeps.trans ?_ (After.keeps _)) | (with_reducible refine Keeps.trans ?_ (by with_reducible assumption)) | go_size)); (first | done | fail)))).keeps hk5; have D := (D.keeps (by ((repeat' (first | (with_reducible exact Keeps.refl _) | (with_reducible assumption) | (with_reducible refine Keeps.drewN ?_ _) | (with_reducible refine Keeps.drew ?_) | (with_reducible refine Keeps.alloc ?_ _) | (with_reducible refine Keeps.setCell ?_ ?_ _) | (with_reducible refine Keeps.trans ?_ (After.keeps _)) | (with_reducible refine Keeps.trans ?_ (by with_reducible assumption)) | go_size)); (first | done | fail)))).keeps hk5; have HC := (HC.keeps (by ((repeat' (first | (with_reducible exact Keeps.refl _) | (with_reducible assumption) | (with_reducible refine Keeps.drewN ?_ _) | (with_reducible refine Keeps.drew ?_) | (with_reducible refine Keeps.alloc ?_ _) | (with_reducible refine Keeps.setCell ?_ ?_ _) | (with_reducible refine Keeps.trans ?_ (After.keeps _)) | (with_reducible refine Keeps.trans ?_ (by with_reducible assumption)) | go_size)); (first | done | fail)))).keeps hk5; have HT := (HT.keeps (by ((repeat' (first | (with_reducible exact Keeps.refl _) | (with_reducible assumption) | (with_reducible refine Keeps.drewN ?_ _) | (with_reducible refine Keeps.drew ?_) | (with_reducible refine Keeps.alloc ?_ _) | (with_reducible refine Keeps.setCell ?_ ?_ _) | (with_reducible refine Keeps.trans ?_ (After.keeps _)) | (with_reducible refine Keeps.trans ?_ (by with_reducible assumption)) | go_size)); (first | done | fail)))).keeps hk5; have HWW := (HWW.keeps (by ((repeat' (first | (with_reducible exact Keeps.refl _) | (with_reducible assumption) | (with_reducible refine Keeps.drewN ?_ _) | (with_reducible refine Keeps.drew ?_) | (with_reducible refine Keeps.alloc ?_ _) | (with_reducible refine Keeps.setCell ?_ ?_ _) | (with_reducible refine Keeps.trans ?_ (After.keeps _)) | (with_reducible refine Keeps.trans ?_ (by with_reducible assumption)) | go_size)); (first | done | fail)))).keeps hk5; have HMg := (HMg.keeps (by ((repeat' (first | (with_reducible exact Keeps.refl _) | (with_reducible assumption) | (with_reducible refine Keeps.drewN ?_ _) | (with_reducible refine Keeps.drew ?_) | (with_reducible refine Keeps.alloc ?_ _) | (with_reducible refine Keeps.setCell ?_ ?_ _) | (with_reducible refine Keeps.trans ?_ (After.keeps _)) | (with_reducible refine Keeps.trans ?_ (by with_reducible assumption)) | go_size)); (first | done | fail)))).keeps hk5; have R0 := (R0.keeps (by ((repeat' (first | (with_reducible exact Keeps.refl _) | (with_reducible assumption) | (with_reducible refine Keeps.drewN ?_ _) | (with_reducible refine Keeps.drew ?_) | (with_reducible refine Keeps.alloc ?_ _) | (with_reducible refine Keeps.setCell ?_ ?_ _) | (with_reducible refine Keeps.trans ?_ (After.keeps _)) | (with_reducible refine Keeps.trans ?_ (by with_reducible assumption)) | go_size)); (first | done | fail)))).keeps hk5; have R := (R.keeps (by ((repeat' (first | (with_reducible exact Keeps.refl _) | (with_reducible assumption) | (with_reducible refine Keeps.drewN ?_ _) | (with_reducible refine Keeps.drew ?_) | (with_reducible refine Keeps.alloc ?_ _) | (with_reducible refine Keeps.setCell ?_ ?_ _) | (with_reducible refine Keeps.trans ?_ (After.keeps _)) | (with_reducible refine Keeps.trans ?_ (by with_reducible assumption)) | go_size)); (first | done | fail)))).keeps hk5; have K0 := (K0.trans (by ((repeat' (first | (with_reducible exact Keeps.refl _) | (with_reducible assumption) | (with_reducible refine Keeps.drewN ?_ _) | (with_reducible refine Keeps.drew ?_) | (with_reducible refine Keeps.alloc ?_ _) | (with_reducible refine Keeps.setCell ?_ ?_ _) | (with_reducible refine Keeps.trans ?_ (After.keeps _)) | (with_reducible refine Keeps.trans ?_ (by with_reducible assumption)) | go_size)); (first | done | fail)))).trans hk5)
                | (go_at_call 23; refine (mcount H.mem.choose_spec).mono ?_; rintro e w' ⟨rfl, rfl⟩))
            go_wp2
            go_roundw
            case rel => exact ⟨k + 1, l2, r2, cc + 1 + (L.length : Int), by omega, by go_num, H, D, HAg, HC, K0, by omega, by omega⟩
            case measure => simp [intOf] <;> omega
      · obtain rfl : k = zs.length := by omega
        obtain ⟨Sp, E, HWW⟩ := D.hW
        have HLp := Lib.hid (HA.out.pool K)
        have hln : (stList 0 6 K l).length ≤ 1000000 := by
          have := lf_len (lk := 6) (n := K) (l := l) K (topI K (l.getD 0 0))
          unfold stList; omega
        have HX := H.hX
        go_wp2
        go_region_held3 (fun y => y.cell? ⟨W, 7, none⟩ = some (.pointer (some ⟨Pl, 0, none⟩))) (((repeat' (with_reducible apply And.intro)) <;> (apply Has.cellv; (focus ((repeat (first | (with_reducible assumption) | (with_reducible exact Has.new _ _ _) | (with_reducible exact Has.new1 _ _ _ _) | (with_reducible exact Has.new2 _ _ _ _ _) | (with_reducible refine Has.newAt ?_; (simp; done)) | (with_reducible apply Has.set) | (with_reducible apply Has.far; (case hn => first | assumption | (simp; done) | (intro e_; simp at e_; omega))) | (with_reducible apply Has.alloc) | (with_reducible apply Has.drewN) | (with_reducible apply Has.drew) | (with_reducible refine Has.keeps ?_ (by with_reducible assumption)))))); (first | (with_reducible assumption) | rfl | (simp; done) | fail))))
          (first
            | (go_at_call 30; refine (chainPool_c (HX.keeps (by ((repeat' (first | (with_reducible exact Keeps.refl _) | (with_reducible assumption) | (with_reducible refine Keeps.drewN ?_ _) | (with_reducible refine Keeps.drew ?_) | (with_reducible refine Keeps.alloc ?_ _) | (with_reducible refine Keeps.setCell ?_ ?_ _) | (with_reducible refine Keeps.trans ?_ (After.keeps _)) | (with_reducible refine Keeps.trans ?_ (by with_reducible assumption)) | go_size)); (first | done | fail))))).mono ?_; rintro e w' ⟨rfl, rfl⟩)
            | (go_at_call 37; refine (list_c (H.hP.keeps (by ((repeat' (first | (with_reducible exact Keeps.refl _) | (with_reducible assumption) | (with_reducible refine Keeps.drewN ?_ _) | (with_reducible refine Keeps.drew ?_) | (with_reducible refine Keeps.alloc ?_ _) | (with_reducible refine Keeps.setCell ?_ ?_ _) | (with_reducible refine Keeps.trans ?_ (After.keeps _)) | (with_reducible refine Keeps.trans ?_ (by with_reducible assumption)) | go_size)); (first | done | fail)))) (H.mem.choose_spec.keeps (by ((repeat' (first | (with_reducible exact Keeps.refl _) | (with_reducible assumption) | (with_reducible refine Keeps.drewN ?_ _) | (with_reducible refine Keeps.drew ?_) | (with_reducible refine Keeps.alloc ?_ _) | (with_reducible refine Keeps.setCell ?_ ?_ _) | (with_reducible refine Keeps.trans ?_ (After.keeps _)) | (with_reducible refine Keeps.trans ?_ (by with_reducible assumption)) | go_size)); (first | done | fail)))) H.ok).mono ?_; rintro e w' ⟨v5, rfl, hk5, R5⟩; have H := (H.keeps (by ((repeat' (first | (with_reducible exact Keeps.refl _) | (with_reducible assumption) | (with_reducible refine Keeps.drewN ?_ _) | (with_reducible refine Keeps.drew ?_) | (with_reducible refine Keeps.alloc ?_ _) | (with_reducible refine Keeps.setCell ?_ ?_ _) | (with_reducible refine Keeps.trans ?_ (After.keeps _)) | (with_reducible refine Keeps.trans ?_ (by with_reducible assumption)) | go_size)); (first | done | fail)))).keeps hk5; have D := (D.keeps (by ((repeat' (first | (with_reducible exact Keeps.refl _) | (with_reducible assumption) | (with_reducible refine Keeps.drewN ?_ _) | (with_reducible refine Keeps.drew ?_) | (with_reducible refine Keeps.alloc ?_ _) | (with_reducible refine Keeps.setCell ?_ ?_ _) | (with_reducible refine Keeps.trans ?_ (After.keeps _)) | (with_reducible refine Keeps.trans ?_ (by with_reducible assumption)) | go_size)); (first | done | fail)))).keeps hk5; have HWW := (HWW.keeps (by ((repeat' (first | (with_reducible exact Keeps.refl _) | (with_reducible assumption) | (with_reducible refine Keeps.drewN ?_ _) | (with_reducible refine Keeps.drew ?_) | (with_reducible refine Keeps.alloc ?_ _) | (with_reducible refine Keeps.setCell ?_ ?_ _) | (with_reducible refine Keeps.trans ?_ (After.keeps _)) | (with_reducible refine Keeps.trans ?_ (by with_reducible assumption)) | go_size)); (first | done | fail)))).keeps hk5; have K0 := (K0.trans (by ((repeat' (first | (with_reducible exact Keeps.refl _) | (with_reducible assumption) | (with_reducible refine Keeps.drewN ?_ _) | (with_reducible refine Keeps.drew ?_) | (with_reducible refine Keeps.alloc ?_ _) | (with_reducible refine Keeps.setCell ?_ ?_ _) | (with_reducible refine Keeps.trans ?_ (After.keeps _)) | (with_reducible refine Keeps.trans ?_ (by with_reducible assumption)) | go_size)); (first | done | fail)))).trans hk5)
            | (go_at_call 38; refine (rlist_c D.hP D.M D.ok).mono ?_; rintro e w' ⟨v6, rfl, hk5, R6⟩; rw [← HLp.out] at R6; have R5 := R5.keeps hk5; have H := (H.keeps (by ((repeat' (first | (with_reducible exact Keeps.refl _) | (with_reducible assumption) | (with_reducible refine Keeps.drewN ?_ _) | (with_reducible refine Keeps.drew ?_) | (with_reducible refine Keeps.alloc ?_ _) | (with_reducible refine Keeps.setCell ?_ ?_ _) | (with_reducible refine Keeps.trans ?_ (After.keeps _)) | (with_reducible refine Keeps.trans ?_ (by with_reducible assumption)) | go_size)); (first | done | fail)))).keeps hk5; have D := (D.keeps (by ((repeat' (first | (with_reducible exact Keeps.refl _) | (with_reducible assumption) | (with_reducible refine Keeps.drewN ?_ _) | (with_reducible refine Keeps.drew ?_) | (with_reducible refine Keeps.alloc ?_ _) | (with_reducible refine Keeps.setCell ?_ ?_ _) | (with_reducible refine Keeps.trans ?_ (After.keeps _)) | (with_reducible refine Keeps.trans ?_ (by with_reducible assumption)) | go_size)); (first | done | fail)))).keeps hk5; have HWW := (HWW.keeps (by ((repeat' (first | (with_reducible exact Keeps.refl _) | (with_reducible assumption) | (with_reducible refine Keeps.drewN ?_ _) | (with_reducible refine Keeps.drew ?_) | (with_reducible refine Keeps.alloc ?_ _) | (with_reducible refine Keeps.setCell ?_ ?_ _) | (with_reducible refine Keeps.trans ?_ (After.keeps _)) | (with_reducible refine Keeps.trans ?_ (by with_reducible assumption)) | go_size)); (first | done | fail)))).keeps hk5; have K0 := (K0.trans (by ((repeat' (first | (with_reducible exact Keeps.refl _) | (with_reducible assumption) | (with_reducible refine Keeps.drewN ?_ _) | (with_reducible refine Keeps.drew ?_) | (with_reducible refine Keeps.alloc ?_ _) | (with_reducible refine Keeps.setCell ?_ ?_ _) | (with_reducible refine Keeps.trans ?_ (After.keeps _)) | (with_reducible refine Keeps.trans ?_ (by with_reducible assumption)) | go_size)); (first | done | fail)))).trans hk5)
            | (go_at_call 22; refine (sameInts_yes _ _ _ _ R5.reads R6.reads hln).mono ?_; rintro e w' ⟨rfl, hk5⟩; have H := (H.keeps (by ((repeat' (first | (with_reducible exact Keeps.refl _) | (with_reducible assumption) | (with_reducible refine Keeps.drewN ?_ _) | (with_reducible refine Keeps.drew ?_) | (with_reducible refine Keeps.alloc ?_ _) | (with_reducible refine Keeps.setCell ?_ ?_ _) | (with_reducible refine Keeps.trans ?_ (After.keeps _)) | (with_reducible refine Keeps.trans ?_ (by with_reducible assumption)) | go_size)); (first | done | fail)))).keeps hk5; have D := (D.keeps (by ((repeat' (first | (with_reducible exact Keeps.refl _) | (with_reducible assumption) | (with_reducible refine Keeps.drewN ?_ _) | (with_reducible refine Keeps.drew ?_) | (with_reducible refine Keeps.alloc ?_ _) | (with_reducible refine Keeps.setCell ?_ ?_ _) | (with_reducible refine Keeps.trans ?_ (After.keeps _)) | (with_reducible refine Keeps.trans ?_ (by with_reducible assumption)) | go_size)); (first | done | fail)))).keeps hk5; have HWW := (HWW.keeps (by ((repeat' (first | (with_reducible exact Keeps.refl _) | (with_reducible assumption) | (with_reducible refine Keeps.drewN ?_ _) | (with_reducible refine Keeps.drew ?_) | (with_reducible refine Keeps.alloc ?_ _) | (with_reducible refine Keeps.setCell ?_ ?_ _) | (with_reducible refine Keeps.trans ?_ (After.keeps _)) | (with_reducible refine Keeps.trans ?_ (by with_reducible assumption)) | go_size)); (first | done | fail)))).keeps hk5; have K0 := (K0.trans (by ((repeat' (first | (with_reducible exact Keeps.refl _) | (with_reducible assumption) | (with_reducible refine Keeps.drewN ?_ _) | (with_reducible refine Keeps.drew ?_) | (with_reducible refine Keeps.alloc ?_ _) | (with_reducible refine Keeps.setCell ?_ ?_ _) | (with_reducible refine Keeps.trans ?_ (After.keeps _)) | (with_reducible refine Keeps.trans ?_ (by with_reducible assumption)) | go_size)); (first | done | fail)))).trans hk5))
        go_wp2
        go_ret
        exact ⟨rfl, K0⟩
end Go.Proofs.Ytcohhfndaogikaa
