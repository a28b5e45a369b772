/- The document's layout: New, walked. -/
import Derived.Test.YtaecapjicphdkaaGreatMg20
import Derived.Test.YtaecapjicphdkaaGreatMg22
import Derived.Test.YtaecapjicphdkaaGreatMg13
import Derived.Test.YtaecapjicphdkaaGreatMg14
import Derived.Test.YtaecapjicphdkaaGreatMg21
namespace Go.Proofs.YtaecapjicphdkaaGreat
set_option linter.unusedVariables false
set_option linter.unusedSimpArgs false
open Go Go.RowKit
set_option maxRecDepth 100000
attribute [local go_sem ↓] Go.wp_at_zero Go.wp_at_succ
set_option maxHeartbeats 1000000

abbrev rcfgA (p k d s c b : Int) : Array Value := #[.int .i64 p, .int .i64 k, .int .i64 d, .int .i64 s, .int .i64 c, .int .i64 b]
abbrev pto (g : Nat) : Value := .pointer (some ⟨g, 0, none⟩)
def rwOf (p k d s c b : Int) (g : Nat) (Pl Sp E : Value) : Array Value := #[.int .i64 p, .int .i64 k, .int .i64 d, .int .i64 s, .int .i64 c, .int .i64 b, .pointer (some ⟨g, 0, none⟩), Pl, Sp, E]
section
variable {w : World} {N lk ls K s : Nat} {p d c b : Int}
theorem r11New_c (hm : mayB p K d s c b = true) (hN : lenI p K d s c b = N) (hlk : (lk : Int) = 3 + p + s + s) (hls : (ls : Int) = 3 + p + s) :
    Calls Tryz.prog 49 #[.agg #[.int .i64 p, .int .i64 K, .int .i64 d, .int .i64 s, .int .i64 c, .int .i64 b]] w fun e w' => ∃ W g bb Pl Sp E, e = .returned (.pointer (some ⟨W, 0, none⟩)) ∧ Keeps w w' ∧ (w.heap.size ≤ W ∧ w.heap.size ≤ g ∧ w.heap.size ≤ bb ∧ w.heap.size ≤ Pl ∧ w.heap.size ≤ Sp) ∧ Pl ≠ Sp ∧
      Has w' W (rwOf p K d s c b g (pto Pl) (pto Sp) (pto E)) 85 ∧ Has w' Pl (rstackOf g (0 : Nat) lk K) 136 ∧ Has w' Sp (rstackOf g (1 : Nat) ls s) 136 ∧ RMem w' g bb N (stFill 1 ls s (stFill 0 lk K (List.replicate N 0))) 0 := by
  obtain ⟨⟨p0, p1⟩, ⟨k0, k1⟩, ⟨d0, d1⟩, -, ⟨s0, s1⟩, ⟨c0, c1⟩, b0, b1⟩ := mayB_true.1 hm
  obtain ⟨q0, q1⟩ := prod_bd k0 k1 d0 d1
  have hle : lenI p K d s c b = 3 + p + 2 * s + K + K * d := by unfold lenI; rw [if_pos hm]
  have hN2 : (N : Int) = 3 + p + 2 * s + K + K * d := by rw [← hN, hle]
  have HLN := Lib.hid hN
  have HL : Hid (clinkI p K d s c b 0 = (lk : Int)) := Lib.hid (by unfold clinkI; rw [atI_t hm (by omega) (by omega)]; omega)
  have HSl : Hid (cslotI p K d s c b 0 = (ls : Int)) := Lib.hid (by unfold cslotI; rw [atI_t hm (by omega) (by omega)]; omega)
  have HPn : Hid (cpinI p K d s c b 0 = 3) := Lib.hid (by unfold cpinI; rw [atI_t hm (by omega) (by omega)]; omega)
  have b1' : lk + K ≤ N := by omega
  have b2' : ls + s ≤ lk := by omega
  have b3' : 3 ≤ ls := by omega
  have b4' : N ≤ 8388608 := by omega
  have bk1 : 1 ≤ K := by omega
  have bk2 : K ≤ 4096 := by omega
  have bs1 : 1 ≤ s := by omega
  have bs2 : s ≤ 4096 := by omega
  have bsN : ls + s ≤ N := by omega
  have bN0 : 0 < N := by omega
  have bN1 : 1 < N := by omega
  have ba : (0 : Nat) < lk ∨ lk + K ≤ 0 := by omega
  have ba2 : (1 : Nat) < ls ∨ ls + s ≤ 1 := by omega
  clear hm hN hle hN2 hlk hls
  go_enter Tryz.func49, Tryz.ntmps49
  go_wp2_with (first
    | (go_at_call 90; refine (rlen_c _ _ _ _ _ _ _).mono ?_; rintro e w' ⟨rfl, hk1⟩; rw [HLN.out]; have HC := (Has.new w (rcfgA p K d s c b) 24).keeps hk1; have K0 := ((Keeps.refl w).alloc (.cells (rcfgA p K d s c b) 24)).trans hk1)
    | (go_at_call 89; refine (rmnew N _ b4').mono ?_; rintro e w' ⟨g, bb, rfl, hk2, hg, hb, M⟩; have HC := HC.keeps hk2; have hg := Nat.le_trans K0.size hg; have hb := Nat.le_trans K0.size hb; have K0 := K0.trans hk2; have FX_ := (HC).facts; simp only [blockFacts, listFacts, cellsAt, Nat.reduceAdd, and_true, true_and, and_assoc] at FX_))
  have b5' : 3 ≤ N := by omega
  refine wp_named' (fun W1 hW => ?_)
  have M0 := M
  have HCR : w.heap.size ≠ w'.heap.size := by have := HC.lt; omega
  have HR : Has W1 w'.heap.size (rwOf p K d s c b g (.pointer none) (.pointer none) (.pointer none)) 85 := by rw [hW]; exact Has.new w' _ _
  have HC : Has W1 w.heap.size (rcfgA p K d s c b) 24 := by rw [hW]; exact HC.alloc _
  have M : RMem W1 g bb N (List.replicate N 0) 0 := by rw [hW]; exact M.alloc _
  have K1 : Keeps w W1 := by rw [hW]; exact K0.alloc _
  have hWb : w.heap.size ≤ w'.heap.size := K0.size
  clear hW hk1 hk2 FX_ K0
  have hgW : g ≠ w'.heap.size ∧ bb ≠ w'.heap.size := by have := M0.lt; omega
  clear M0
  generalize w'.heap.size = W at *
  generalize hCw : w.heap.size = C at *
  have HCw := Lib.hid hCw
  clear hCw
  have FX_ := (HC).facts; simp only [blockFacts, listFacts, cellsAt, Nat.reduceAdd, and_true, true_and, and_assoc] at FX_
  have HKp := Keeps.refl W1
  go_region_held3 (fun y => ((((y.cell? ⟨C, 0, none⟩ = some (.int .i64 p) ∧ y.cell? ⟨C, 1, none⟩ = some (.int .i64 K)) ∧ y.cell? ⟨C, 2, none⟩ = some (.int .i64 d)) ∧ y.cell? ⟨C, 3, none⟩ = some (.int .i64 s)) ∧ y.cell? ⟨C, 4, none⟩ = some (.int .i64 c)) ∧ y.cell? ⟨C, 5, none⟩ = some (.int .i64 b)) (((repeat' (with_reducible apply And.intro)) <;> (apply Has.cellv; (focus ((repeat (first | (with_reducible assumption) | (with_reducible exact Has.new _ _ _) | (with_reducible exact Has.new1 _ _ _ _) | (with_reducible exact Has.new2 _ _ _ _ _) | (with_reducible refine Has.newAt ?_; (simp; done)) | (with_reducible apply Has.set) | (with_reducible apply Has.far; (case hn => first | assumption | (simp; done) | (intro e_; simp at e_; omega))) | (with_reducible apply Has.alloc) | (with_reducible apply Has.drewN) | (with_reducible apply Has.drew) | (with_reducible refine Has.keeps ?_ (by with_reducible assumption)))))); (first | (with_reducible assumption) | rfl | (simp; done) | fail))))
    ((go_at_call 50; refine (rclink_c _ _ _ _ _ _ _ _).mono ?_; rintro e w' ⟨rfl, hk5⟩; rw [HL.out]; have HC := (HC.keeps (by ((repeat' (first | (with_reducible exact Keeps.refl _) | (with_reducible assumption) | (with_reducible refine Keeps.drewN ?_ _) | (with_reducible refine Keeps.drew ?_) | (with_reducible refine Keeps.alloc ?_ _) | (with_reducible refine Keeps.setCell ?_ ?_ _) | (with_reducible refine Keeps.trans ?_ (After.keeps _)) | (with_reducible refine Keeps.trans ?_ (by with_reducible assumption)) | go_size)); (first | done | fail)))).keeps hk5; have HR := (HR.keeps (by ((repeat' (first | (with_reducible exact Keeps.refl _) | (with_reducible assumption) | (with_reducible refine Keeps.drewN ?_ _) | (with_reducible refine Keeps.drew ?_) | (with_reducible refine Keeps.alloc ?_ _) | (with_reducible refine Keeps.setCell ?_ ?_ _) | (with_reducible refine Keeps.trans ?_ (After.keeps _)) | (with_reducible refine Keeps.trans ?_ (by with_reducible assumption)) | go_size)); (first | done | fail)))).keeps hk5; have HKp := (HKp.drew).trans hk5; have FX_ := (HR).facts; simp only [blockFacts, listFacts, cellsAt, Nat.reduceAdd, and_true, true_and, and_assoc, rwOf] at FX_))
  have hPw : W < w'.heap.size := HR.lt
  have hCl := HC.lt
  have MW := M.keeps HKp
  have hgl := MW.lt
  have K2 := K1.trans HKp
  have szK := K2.size
  rw [HCw.out] at szK
  generalize hW : (w'.setCell ⟨W, 7, none⟩ _).alloc _ = W2
  have hU : Upd [W] w' W2 := by rw [← hW]; (repeat (first | (with_reducible exact Upd.refl _ _) | (with_reducible assumption) | (with_reducible refine Upd.setCell ?_ (by first | (left; simp; done) | (right; go_size)) _) | (with_reducible refine Upd.alloc ?_ _) | (with_reducible refine Upd.drewN ?_ _) | (with_reducible refine Upd.drew ?_)))
  have HP2 : Has W2 w'.heap.size (rstackOf g (0 : Nat) lk K) 136 := by rw [← hW]; exact Has.newAt (by simp)
  have HR : Has W2 W (rwOf p K d s c b g (pto w'.heap.size) (.pointer none) (.pointer none)) 85 := by rw [← hW]; (apply Has.congr; (focus ((repeat (first | (with_reducible assumption) | (with_reducible exact Has.new _ _ _) | (with_reducible exact Has.new1 _ _ _ _) | (with_reducible exact Has.new2 _ _ _ _ _) | (with_reducible refine Has.newAt ?_; (simp; done)) | (with_reducible apply Has.set) | (with_reducible apply Has.far; (case hn => first | assumption | (simp; done) | (intro e_; simp at e_; omega))) | (with_reducible apply Has.alloc) | (with_reducible apply Has.drewN) | (with_reducible apply Has.drew) | (with_reducible refine Has.keeps ?_ (by with_reducible assumption)))))); (first | rfl | (simp; done)))
  have HC := HC.upd hU (by simpa using HCR)
  have M := MW.upd hU (by simpa using hgW.1) (by simpa using hgW.2)
  have K1 : Keeps w W2 := by rw [← hW]; exact (K2.setCell (by rw [HCw.out]; exact hWb) _).alloc _
  clear hW hk5 K2 MW
  obtain ⟨P2, hP9, hPa, hPb, hPc⟩ : ∃ P, w'.heap.size = P ∧ C ≤ P ∧ W ≠ P ∧ bb ≠ P := ⟨_, rfl, szK, by omega, by omega⟩
  rw [hP9] at HP2 HR
  clear hP9 hPw hCl hgl szK hU HKp
  have hPb2 := hPb
  have hPa2 := hPa
  have FX_ := (HC).facts; simp only [blockFacts, listFacts, cellsAt, Nat.reduceAdd, and_true, true_and, and_assoc] at FX_
  go_wp2
  have HKp := Keeps.refl W2
  go_region_held3 (fun y => ((((y.cell? ⟨C, 0, none⟩ = some (.int .i64 p) ∧ y.cell? ⟨C, 1, none⟩ = some (.int .i64 K)) ∧ y.cell? ⟨C, 2, none⟩ = some (.int .i64 d)) ∧ y.cell? ⟨C, 3, none⟩ = some (.int .i64 s)) ∧ y.cell? ⟨C, 4, none⟩ = some (.int .i64 c)) ∧ y.cell? ⟨C, 5, none⟩ = some (.int .i64 b)) (((repeat' (with_reducible apply And.intro)) <;> (apply Has.cellv; (focus ((repeat (first | (with_reducible assumption) | (with_reducible exact Has.new _ _ _) | (with_reducible exact Has.new1 _ _ _ _) | (with_reducible exact Has.new2 _ _ _ _ _) | (with_reducible refine Has.newAt ?_; (simp; done)) | (with_reducible apply Has.set) | (with_reducible apply Has.far; (case hn => first | assumption | (simp; done) | (intro e_; simp at e_; omega))) | (with_reducible apply Has.alloc) | (with_reducible apply Has.drewN) | (with_reducible apply Has.drew) | (with_reducible refine Has.keeps ?_ (by with_reducible assumption)))))); (first | (with_reducible assumption) | rfl | (simp; done) | fail))))
    ((go_at_call 91; refine (rcslot_c _ _ _ _ _ _ _ _).mono ?_; rintro e w' ⟨rfl, hk5⟩; rw [HSl.out]; have HC := (HC.keeps (by ((repeat' (first | (with_reducible exact Keeps.refl _) | (with_reducible assumption) | (with_reducible refine Keeps.drewN ?_ _) | (with_reducible refine Keeps.drew ?_) | (with_reducible refine Keeps.alloc ?_ _) | (with_reducible refine Keeps.setCell ?_ ?_ _) | (with_reducible refine Keeps.trans ?_ (After.keeps _)) | (with_reducible refine Keeps.trans ?_ (by with_reducible assumption)) | go_size)); (first | done | fail)))).keeps hk5; have HR := (HR.keeps (by ((repeat' (first | (with_reducible exact Keeps.refl _) | (with_reducible assumption) | (with_reducible refine Keeps.drewN ?_ _) | (with_reducible refine Keeps.drew ?_) | (with_reducible refine Keeps.alloc ?_ _) | (with_reducible refine Keeps.setCell ?_ ?_ _) | (with_reducible refine Keeps.trans ?_ (After.keeps _)) | (with_reducible refine Keeps.trans ?_ (by with_reducible assumption)) | go_size)); (first | done | fail)))).keeps hk5; have HKp := (HKp.drew).trans hk5; have FX_ := (HR).facts; simp only [blockFacts, listFacts, cellsAt, Nat.reduceAdd, and_true, true_and, and_assoc, rwOf] at FX_))
  have hPw : W < w'.heap.size := HR.lt
  have hCl := HC.lt
  have MW := M.keeps HKp
  have hgl := MW.lt
  have K2 := K1.trans HKp
  have szK := K2.size
  rw [HCw.out] at szK
  generalize hW : (w'.setCell ⟨W, 8, none⟩ _).alloc _ = W3
  have hU : Upd [W] w' W3 := by rw [← hW]; (repeat (first | (with_reducible exact Upd.refl _ _) | (with_reducible assumption) | (with_reducible refine Upd.setCell ?_ (by first | (left; simp; done) | (right; go_size)) _) | (with_reducible refine Upd.alloc ?_ _) | (with_reducible refine Upd.drewN ?_ _) | (with_reducible refine Upd.drew ?_)))
  have HP3 : Has W3 w'.heap.size (rstackOf g (1 : Nat) ls s) 136 := by rw [← hW]; exact Has.newAt (by simp)
  have HR : Has W3 W (rwOf p K d s c b g (pto P2) (pto w'.heap.size) (.pointer none)) 85 := by rw [← hW]; (apply Has.congr; (focus ((repeat (first | (with_reducible assumption) | (with_reducible exact Has.new _ _ _) | (with_reducible exact Has.new1 _ _ _ _) | (with_reducible exact Has.new2 _ _ _ _ _) | (with_reducible refine Has.newAt ?_; (simp; done)) | (with_reducible apply Has.set) | (with_reducible apply Has.far; (case hn => first | assumption | (simp; done) | (intro e_; simp at e_; omega))) | (with_reducible apply Has.alloc) | (with_reducible apply Has.drewN) | (with_reducible apply Has.drew) | (with_reducible refine Has.keeps ?_ (by with_reducible assumption)))))); (first | rfl | (simp; done)))
  have HC := HC.upd hU (by simpa using HCR)
  have M := MW.upd hU (by simpa using hgW.1) (by simpa using hgW.2)
  have K1 : Keeps w W3 := by rw [← hW]; exact (K2.setCell (by rw [HCw.out]; exact hWb) _).alloc _
  have HP2l := HP2.keeps HKp
  have hP2l := HP2l.lt
  have HP2 := HP2l.upd hU (by simpa using (Ne.symm hPb))
  clear hW hk5 K2 MW
  obtain ⟨P3, hP9, hPa, hPb, hPc⟩ : ∃ P, w'.heap.size = P ∧ C ≤ P ∧ W ≠ P ∧ bb ≠ P := ⟨_, rfl, szK, by omega, by omega⟩
  have n23 : P2 ≠ P3 := by omega
  rw [hP9] at HP3 HR
  clear hP9 hPw hCl hgl szK hU HKp
  have FX_ := (HC).facts; simp only [blockFacts, listFacts, cellsAt, Nat.reduceAdd, and_true, true_and, and_assoc] at FX_
  go_wp2
  have HKp := Keeps.refl W3
  go_region_held3 (fun y => ((((y.cell? ⟨C, 0, none⟩ = some (.int .i64 p) ∧ y.cell? ⟨C, 1, none⟩ = some (.int .i64 K)) ∧ y.cell? ⟨C, 2, none⟩ = some (.int .i64 d)) ∧ y.cell? ⟨C, 3, none⟩ = some (.int .i64 s)) ∧ y.cell? ⟨C, 4, none⟩ = some (.int .i64 c)) ∧ y.cell? ⟨C, 5, none⟩ = some (.int .i64 b)) (((repeat' (with_reducible apply And.intro)) <;> (apply Has.cellv; (focus ((repeat (first | (with_reducible assumption) | (with_reducible exact Has.new _ _ _) | (with_reducible exact Has.new1 _ _ _ _) | (with_reducible exact Has.new2 _ _ _ _ _) | (with_reducible refine Has.newAt ?_; (simp; done)) | (with_reducible apply Has.set) | (with_reducible apply Has.far; (case hn => first | assumption | (simp; done) | (intro e_; simp at e_; omega))) | (with_reducible apply Has.alloc) | (with_reducible apply Has.drewN) | (with_reducible apply Has.drew) | (with_reducible refine Has.keeps ?_ (by with_reducible assumption)))))); (first | (with_reducible assumption) | rfl | (simp; done) | fail))))
    ((go_at_call 92; refine (rcpin_c _ _ _ _ _ _ _ _).mono ?_; rintro e w' ⟨rfl, hk5⟩; rw [HPn.out]; have HC := (HC.keeps (by ((repeat' (first | (with_reducible exact Keeps.refl _) | (with_reducible assumption) | (with_reducible refine Keeps.drewN ?_ _) | (with_reducible refine Keeps.drew ?_) | (with_reducible refine Keeps.alloc ?_ _) | (with_reducible refine Keeps.setCell ?_ ?_ _) | (with_reducible refine Keeps.trans ?_ (After.keeps _)) | (with_reducible refine Keeps.trans ?_ (by with_reducible assumption)) | go_size)); (first | done | fail)))).keeps hk5; have HR := (HR.keeps (by ((repeat' (first | (with_reducible exact Keeps.refl _) | (with_reducible assumption) | (with_reducible refine Keeps.drewN ?_ _) | (with_reducible refine Keeps.drew ?_) | (with_reducible refine Keeps.alloc ?_ _) | (with_reducible refine Keeps.setCell ?_ ?_ _) | (with_reducible refine Keeps.trans ?_ (After.keeps _)) | (with_reducible refine Keeps.trans ?_ (by with_reducible assumption)) | go_size)); (first | done | fail)))).keeps hk5; have HKp := (HKp.drew).trans hk5; have FX_ := (HR).facts; simp only [blockFacts, listFacts, cellsAt, Nat.reduceAdd, and_true, true_and, and_assoc, rwOf] at FX_))
  have hPw : W < w'.heap.size := HR.lt
  have hCl := HC.lt
  have MW := M.keeps HKp
  have hgl := MW.lt
  have K2 := K1.trans HKp
  have szK := K2.size
  rw [HCw.out] at szK
  generalize hW : (w'.setCell ⟨W, 9, none⟩ _).alloc _ = W4
  have hU : Upd [W] w' W4 := by rw [← hW]; (repeat (first | (with_reducible exact Upd.refl _ _) | (with_reducible assumption) | (with_reducible refine Upd.setCell ?_ (by first | (left; simp; done) | (right; go_size)) _) | (with_reducible refine Upd.alloc ?_ _) | (with_reducible refine Upd.drewN ?_ _) | (with_reducible refine Upd.drew ?_)))
  have HP4 : Has W4 w'.heap.size #[.pointer (some ⟨g, 0, none⟩), .int .i64 2, .int .i64 3, .int .i64 p] 157 := by rw [← hW]; exact Has.newAt (by simp)
  have HR : Has W4 W (rwOf p K d s c b g (pto P2) (pto P3) (pto w'.heap.size)) 85 := by rw [← hW]; (apply Has.congr; (focus ((repeat (first | (with_reducible assumption) | (with_reducible exact Has.new _ _ _) | (with_reducible exact Has.new1 _ _ _ _) | (with_reducible exact Has.new2 _ _ _ _ _) | (with_reducible refine Has.newAt ?_; (simp; done)) | (with_reducible apply Has.set) | (with_reducible apply Has.far; (case hn => first | assumption | (simp; done) | (intro e_; simp at e_; omega))) | (with_reducible apply Has.alloc) | (with_reducible apply Has.drewN) | (with_reducible apply Has.drew) | (with_reducible refine Has.keeps ?_ (by with_reducible assumption)))))); (first | rfl | (simp; done)))
  have HC := HC.upd hU (by simpa using HCR)
  have M := MW.upd hU (by simpa using hgW.1) (by simpa using hgW.2)
  have K1 : Keeps w W4 := by rw [← hW]; exact (K2.setCell (by rw [HCw.out]; exact hWb) _).alloc _
  have HP2l := HP2.keeps HKp
  have HP3l := HP3.keeps HKp
  have HP2 := HP2l.upd hU (by simpa using (Ne.symm hPb2))
  have HP3 := HP3l.upd hU (by simpa using (Ne.symm hPb))
  clear hW hk5 K2 MW
  obtain ⟨P4, hP9, hPa, hPb, hPc⟩ : ∃ P, w'.heap.size = P ∧ C ≤ P ∧ W ≠ P ∧ bb ≠ P := ⟨_, rfl, szK, by omega, by omega⟩
  rw [hP9] at HP4 HR
  clear hP9 hPw hCl hgl szK hU HKp
  have FX_ := (HC).facts; simp only [blockFacts, listFacts, cellsAt, Nat.reduceAdd, and_true, true_and, and_assoc] at FX_
  have FX_ := (HR).facts; simp only [blockFacts, listFacts, cellsAt, Nat.reduceAdd, and_true, true_and, and_assoc, rwOf, pto] at FX_
  have nW : W ≠ bb := Ne.symm hgW.2
  have nP2 : P2 ≠ bb := HP2.ne M.hb (by decide)
  have nP3 : P3 ≠ bb := HP3.ne M.hb (by decide)
  clear HC HKp
  have CC := rfill_c HP2 M bk1 bk2 b1' bN0 ba
  go_wp2_with (first
    | (go_at_call 93; refine CC.mono ?_; rintro e w' ⟨rfl, hu1, M⟩; clear CC; have HR := HR.upd hu1 (by simpa using nW); have HP3 := HP3.upd hu1 (by simpa using nP3); have HP2 := HP2.upd hu1 (by simpa using nP2); have FX_ := (HR).facts; simp only [blockFacts, listFacts, cellsAt, Nat.reduceAdd, and_true, true_and, and_assoc, rwOf, pto] at FX_)
    | (go_at_call 93; refine (rfill_c HP3 M bs1 bs2 bsN bN1 ba2).mono ?_; rintro e w' ⟨rfl, hu2, M⟩))
  go_ret
  have hUU := hu1.trans hu2
  have HR := HR.upd hu2 (by simpa using nW)
  have HP2 := HP2.upd hu2 (by simpa using nP2)
  have HP3 := HP3.upd hu2 (by simpa using nP3)
  have szw := HCw.out
  refine ⟨W, g, bb, P2, P3, P4, rfl, ?_, ⟨by omega, by omega, by omega, by omega, by omega⟩, n23, HR, HP2, HP3, M⟩
  exact K1.upd hUU (by simp; omega)
end
end Go.Proofs.YtaecapjicphdkaaGreat

/- Slots of regions (layer 11): the program's Roots, walked. -/
namespace Go.Proofs.YtaecapjicphdkaaGreat
set_option linter.unusedVariables false
set_option linter.unusedSimpArgs false
open Go Go.RowKit
set_option maxRecDepth 100000
set_option maxHeartbeats 1000000

theorem Upd.past {S T : List Nat} {a b c : World} (h : Upd S a b) (k : Upd T b c) (hT : ∀ x ∈ T, x ∈ S ∨ a.heap.size ≤ x) : Upd S a c :=
  ⟨k.os.trans h.os, k.tape.trans h.tape, k.output.trans h.output, Nat.le_trans h.size k.size, fun i hi hn => (k.block i (Nat.lt_of_lt_of_le hi h.size) (fun hx => by rcases hT i hx with h1 | h1; exact hn h1; omega)).trans (h.block i hi hn)⟩
def rootsOf (m : Nat) (p k d s c b : Int) (S : Nat) : Array Value := #[.pointer (some ⟨m, 0, none⟩), .int .i64 p, .int .i64 k, .int .i64 d, .int .i64 s, .int .i64 c, .int .i64 b, .pointer (some ⟨S, 0, none⟩)]
/-- A root's parts, of its word. -/
abbrev rootV (o : Int) : Value := .agg #[.int .i64 (o / 4294967296), .int .i64 (o / 65536 % 65536), .int .i64 (o / 4096 % 16), .int .i64 (o % 4096)]
def isB (i s : Int) : Bool := decide (0 ≤ i) && decide (i < s)
section
variable {w : World} {R m bb S N : Nat} {l : List Int} {cc : Int} {x : Acc} {p k d s c b : Int}
theorem ris_c (i : Int) (hR : Has w R (rootsOf m p k d s c b S) 109) :
    Calls Tryz.prog 40 #[.pointer (some ⟨R, 0, none⟩), .int .i64 i] w fun e w' => e = .returned (.bool (isB i s)) ∧ w = w' := by
  have FX_ := (hR).facts; simp only [blockFacts, listFacts, cellsAt, Nat.reduceAdd, and_true, true_and, and_assoc, rootsOf] at FX_
  by_cases h0 : 0 ≤ i
  · by_cases h1 : i < s
    · have e : isB i s = true := by simp [isB, h0, h1]
      rw [e]
      clear e
      go_enter Tryz.func40, Tryz.ntmps40
      go_wp2
      go_ret
      exact ⟨rfl, rfl⟩
    · have e : isB i s = false := by simp [isB, h0]; omega
      rw [e]
      clear e
      go_enter Tryz.func40, Tryz.ntmps40
      go_wp2
      go_ret
      exact ⟨rfl, rfl⟩
  · have e : isB i s = false := by simp [isB]; omega
    rw [e]
    clear e
    go_enter Tryz.func40, Tryz.ntmps40
    go_wp2
    go_ret
    exact ⟨rfl, rfl⟩
theorem rsload_c (i : Int) {q : Nat} {o : Int} (hR : Has w R (rootsOf m p k d s c b S) 109) (M : Mem w m bb N l cc x) (hq : crootI p k d s c b i = q) (ho : l[q]? = some o) (o0 : 0 ≤ o) (o1 : o < 18446744073709551616) (hcc : cc < 4611686018427387903) :
    Calls Tryz.prog 77 #[.pointer (some ⟨R, 0, none⟩), .int .i64 i] w fun e w' => e = .returned (.tuple #[.int .u64 o, rootV o]) ∧ Upd [m, bb] w w' ∧ ∃ x', Mem w' m bb N l (cc + 1) x' := by
  have HQ := Lib.hid hq
  have HO := Lib.hid ho
  clear hq ho
  have K0 := Keeps.refl w
  go_enter Tryz.func77, Tryz.ntmps77
  go_wp2
  refine wp_named' (fun W1 hW => ?_)
  have HB : Has W1 w.heap.size #[.int .i64 0, .int .i64 0, .int .i64 0, .int .i64 0] 45 := by rw [hW]; exact Has.new w _ _
  have K0 : Keeps w W1 := by rw [hW]; ((repeat' (first | (with_reducible exact Keeps.refl _) | (with_reducible assumption) | (with_reducible refine Keeps.drewN ?_ _) | (with_reducible refine Keeps.drew ?_) | (with_reducible refine Keeps.alloc ?_ _) | (with_reducible refine Keeps.setCell ?_ ?_ _) | (with_reducible refine Keeps.trans ?_ (After.keeps _)) | (with_reducible refine Keeps.trans ?_ (by with_reducible assumption)) | go_size)); (first | done | fail))
  have hR := hR.keeps K0
  have M := M.keeps K0
  have nBm := Has.ne HB M.hg (by decide)
  have nBb := Has.ne HB M.hb (by decide)
  have HK := Keeps.refl W1
  have nRS : R ∉ [m, bb] := by simp only [List.mem_cons, List.not_mem_nil, or_false, not_or]; exact ⟨Has.ne hR M.hg (by decide), Has.ne hR M.hb (by decide)⟩
  clear hW
  go_region_held3 (fun y => ((((((y.cell? ⟨R, 0, none⟩ = some (.pointer (some ⟨m, 0, none⟩)) ∧ y.cell? ⟨R, 1, none⟩ = some (.int .i64 p)) ∧ y.cell? ⟨R, 2, none⟩ = some (.int .i64 k)) ∧ y.cell? ⟨R, 3, none⟩ = some (.int .i64 d)) ∧ y.cell? ⟨R, 4, none⟩ = some (.int .i64 s)) ∧ y.cell? ⟨R, 5, none⟩ = some (.int .i64 c)) ∧ y.cell? ⟨R, 6, none⟩ = some (.int .i64 b))) (((repeat' (with_reducible apply And.intro)) <;> (apply Has.cellv; (focus ((repeat (first | (with_reducible assumption) | (with_reducible exact Has.new _ _ _) | (with_reducible exact Has.new1 _ _ _ _) | (with_reducible exact Has.new2 _ _ _ _ _) | (with_reducible refine Has.newAt ?_; (simp; done)) | (with_reducible apply Has.set) | (with_reducible apply Has.far; (case hn => first | assumption | (simp; done) | (intro e_; simp at e_; omega))) | (with_reducible apply Has.alloc) | (with_reducible apply Has.drewN) | (with_reducible apply Has.drew) | (with_reducible refine Has.keeps ?_ (by with_reducible assumption)))))); (first | (with_reducible assumption) | rfl | (simp; done) | fail))))
    (first
      | (go_at_call 47; refine (lcroot_c _ _ _ _ _ _ _ _).mono ?_; rintro e w' ⟨rfl, hk5⟩; rw [HQ.out]; have hR := (hR.keeps (by ((repeat' (first | (with_reducible exact Keeps.refl _) | (with_reducible assumption) | (with_reducible refine Keeps.drewN ?_ _) | (with_reducible refine Keeps.drew ?_) | (with_reducible refine Keeps.alloc ?_ _) | (with_reducible refine Keeps.setCell ?_ ?_ _) | (with_reducible refine Keeps.trans ?_ (After.keeps _)) | (with_reducible refine Keeps.trans ?_ (by with_reducible assumption)) | go_size)); (first | done | fail)))).keeps hk5; have HK := (HK.drew).trans hk5)
      | (go_at_call 118; refine (mload_in (M.keeps HK) q HO.out hcc).mono ?_; rintro e w' ⟨rfl, hu, M2⟩; have hR := hR.upd hu nRS))
  have HB := (HB.keeps HK).upd hu (by simp only [List.mem_cons, List.not_mem_nil, or_false, not_or]; exact ⟨nBm, nBb⟩)
  have U1 := ((Upd.of_keeps (K0.trans HK)).trans hu)
  go_wp2_with (go_at_call 45; refine (getRoot_c _ _ o0 o1).mono ?_; rintro e w' ⟨rfl, hk6⟩; have HB := HB.keeps hk6; have U1 := U1.trans (Upd.of_keeps hk6); have M2 := M2.keeps hk6; have FX_ := (HB).facts; simp only [blockFacts, listFacts, cellsAt, Nat.reduceAdd, and_true, true_and, and_assoc] at FX_)
  refine bodyPost_ret (v := .tuple #[.int .u64 o, rootV o]) (by simp [results, Tryz.results77, go_sem, FX_]) rfl ?_
  generalize hWf : World.setCell _ _ _ = Wf
  have hS : Upd [w.heap.size] w' Wf := by rw [← hWf]; (repeat (first | (with_reducible exact Upd.refl _ _) | (with_reducible assumption) | (with_reducible refine Upd.setCell ?_ (by first | (left; simp; done) | (right; go_size)) _) | (with_reducible refine Upd.alloc ?_ _) | (with_reducible refine Upd.drewN ?_ _) | (with_reducible refine Upd.drew ?_)))
  refine ⟨rfl, U1.past hS (by intro y hy; simp only [List.mem_cons, List.not_mem_nil, or_false] at hy; right; omega), _, M2.upd hS (by simp; exact fun e => nBm e.symm) (by simp; exact fun e => nBb e.symm)⟩
theorem rsRoot_c (i : Int) {o : Int} (hR : Has w R (rootsOf m p k d s c b S) 109) (hP : ∀ w1, Keeps w w1 → Calls Tryz.prog 46 #[.pointer (some ⟨m, 0, none⟩), .int .i64 (crootI p k d s c b i)] w1 fun e w' => e = .returned (.int .u64 o) ∧ w1 = w') (o0 : 0 ≤ o) (o1 : o < 18446744073709551616) :
    Calls Tryz.prog 15 #[.pointer (some ⟨R, 0, none⟩), .int .i64 i] w fun e w' => e = .returned (rootV o) ∧ Keeps w w' := by
  have HP := Lib.hid hP
  clear hP
  have K0 := Keeps.refl w
  go_enter Tryz.func15, Tryz.ntmps15
  go_wp2
  refine wp_named' (fun W1 hW => ?_)
  have HB : Has W1 w.heap.size #[.int .i64 0, .int .i64 0, .int .i64 0, .int .i64 0] 45 := by rw [hW]; exact Has.new w _ _
  have K0 : Keeps w W1 := by rw [hW]; ((repeat' (first | (with_reducible exact Keeps.refl _) | (with_reducible assumption) | (with_reducible refine Keeps.drewN ?_ _) | (with_reducible refine Keeps.drew ?_) | (with_reducible refine Keeps.alloc ?_ _) | (with_reducible refine Keeps.setCell ?_ ?_ _) | (with_reducible refine Keeps.trans ?_ (After.keeps _)) | (with_reducible refine Keeps.trans ?_ (by with_reducible assumption)) | go_size)); (first | done | fail))
  have hR := hR.keeps K0
  have nBR := Has.ne HB hR (by decide)
  have nBR' := nBR.symm
  have HK := Keeps.refl W1
  clear hW
  generalize hB : w.heap.size = B at *
  go_region_held3 (fun y => ((((((y.cell? ⟨R, 0, none⟩ = some (.pointer (some ⟨m, 0, none⟩)) ∧ y.cell? ⟨R, 1, none⟩ = some (.int .i64 p)) ∧ y.cell? ⟨R, 2, none⟩ = some (.int .i64 k)) ∧ y.cell? ⟨R, 3, none⟩ = some (.int .i64 d)) ∧ y.cell? ⟨R, 4, none⟩ = some (.int .i64 s)) ∧ y.cell? ⟨R, 5, none⟩ = some (.int .i64 c)) ∧ y.cell? ⟨R, 6, none⟩ = some (.int .i64 b))) (((repeat' (with_reducible apply And.intro)) <;> (apply Has.cellv; (focus ((repeat (first | (with_reducible assumption) | (with_reducible exact Has.new _ _ _) | (with_reducible exact Has.new1 _ _ _ _) | (with_reducible exact Has.new2 _ _ _ _ _) | (with_reducible refine Has.newAt ?_; (simp; done)) | (with_reducible apply Has.set) | (with_reducible apply Has.far; (case hn => first | assumption | (simp; done) | (intro e_; simp at e_; omega))) | (with_reducible apply Has.alloc) | (with_reducible apply Has.drewN) | (with_reducible apply Has.drew) | (with_reducible refine Has.keeps ?_ (by with_reducible assumption)))))); (first | (with_reducible assumption) | rfl | (simp; done) | fail))))
    (first
      | (go_at_call 47; refine (lcroot_c _ _ _ _ _ _ _ _).mono ?_; rintro e w' ⟨rfl, hk5⟩; have hR := (hR.keeps (by ((repeat' (first | (with_reducible exact Keeps.refl _) | (with_reducible assumption) | (with_reducible refine Keeps.drewN ?_ _) | (with_reducible refine Keeps.drew ?_) | (with_reducible refine Keeps.alloc ?_ _) | (with_reducible refine Keeps.setCell ?_ ?_ _) | (with_reducible refine Keeps.trans ?_ (After.keeps _)) | (with_reducible refine Keeps.trans ?_ (by with_reducible assumption)) | go_size)); (first | done | fail)))).keeps hk5; have HK := (HK.drew).trans hk5)
      | (go_at_call 46; refine (HP.out _ (K0.trans HK)).mono ?_; rintro e w' ⟨rfl, rfl⟩)
      | (go_at_call 45; refine (getRoot_c _ _ o0 o1).mono ?_; rintro e w' ⟨rfl, hk6⟩; have hR := hR.keeps hk6; have HK := HK.trans hk6; have HB := HB.keeps HK; have FX_ := (HB).facts; simp only [blockFacts, listFacts, cellsAt, Nat.reduceAdd, and_true, true_and, and_assoc] at FX_))
  all_goals go_wp2
  refine bodyPost_ret (v := rootV o) (by simp [results, Tryz.results15, go_sem, FX_]) rfl ?_
  exact ⟨rfl, (K0.trans HK).setCell (by rw [hB]; exact Nat.le_refl _) _ |>.setCell (by rw [hB]; exact Nat.le_refl _) _ |>.setCell (by rw [hB]; exact Nat.le_refl _) _ |>.setCell (by rw [hB]; exact Nat.le_refl _) _⟩
theorem rsSpare_c (hR : Has w R (rootsOf m p k d s c b S) 109) {hd lk n : Nat} (hS : Has w S (stackOf m hd lk n) 143) (M : Mem w m bb N l cc x) (L : StOk hd lk n N l) :
    Calls Tryz.prog 18 #[.pointer (some ⟨R, 0, none⟩)] w fun e w' => ∃ v', e = .returned v' ∧ Keeps w w' ∧ Row w.heap.size 3 w' v' (ivals (stList hd lk n l)) := by
  have FX_ := (hR).facts; simp only [blockFacts, listFacts, cellsAt, Nat.reduceAdd, and_true, true_and, and_assoc, rootsOf] at FX_
  go_enter Tryz.func18, Tryz.ntmps18
  go_wp2_with (go_at_call 51; refine (list_c hS M L).mono ?_; rintro e w' ⟨v', rfl, hk, hr⟩)
  go_ret
  exact ⟨v', rfl, hk, hr⟩
end
end Go.Proofs.YtaecapjicphdkaaGreat
