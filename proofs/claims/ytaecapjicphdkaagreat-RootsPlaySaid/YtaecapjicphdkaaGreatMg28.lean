/- The document's Create (layer 11), walked. -/
import Derived.Test.YtaecapjicphdkaaGreatMg20
import Derived.Test.YtaecapjicphdkaaGreatMg23
import Derived.Test.YtaecapjicphdkaaGreatMg27
import Derived.Test.YtaecapjicphdkaaGreatMg15
namespace Go.Proofs.YtaecapjicphdkaaGreat
set_option linter.unusedVariables false
set_option linter.unusedSimpArgs false
open Go Go.RowKit
set_option maxRecDepth 100000
attribute [local go_sem ↓] Go.wp_at_zero Go.wp_at_succ
set_option maxHeartbeats 1000000

abbrev rcreateOf (W : Nat) (cls a c point slot gen : Int) (P : Nat) (g mk cl ofs code : Int) (dn : Bool) : Array Value := #[.pointer (some ⟨W, 0, none⟩), .int .i64 cls, .int .i64 a, .int .i64 c, .int .i64 point, .int .i64 slot, .int .i64 gen, .pointer (some ⟨P, 0, none⟩), .int .i64 g, .int .i64 mk, .int .i64 cl, .int .i64 ofs, .int .i64 code, .bool dn]
section
variable {w : World} {W gg gb N T P q : Nat} {l : List Int} {cc : Int} {p k d s cz b : Int} {Pl Sp E : Value} {cls c point slot gen g mk cl ofs code o : Int}
theorem rlater_c (x : Int) (w : World) (x0 : 0 ≤ x) : Calls Tryz.prog 102 #[.int .i64 x] w fun e w' => e = .returned (.int .i64 (genN x)) ∧ w = w' := by
  by_cases h : 4294967295 ≤ x
  · have e : genN x = 0 := by unfold genN; rw [if_neg (by omega)]
    rw [e]
    clear e
    go_enter Tryz.func102, Tryz.ntmps102
    go_wp2
    go_ret
    exact ⟨rfl, rfl⟩
  · have e : genN x = x + 1 := by unfold genN; rw [if_pos (by omega)]
    rw [e]
    have h' : x < 4294967295 := by omega
    clear e h
    go_enter Tryz.func102, Tryz.ntmps102
    go_wp2
    go_ret
    exact ⟨rfl, rfl⟩
theorem rcr_done {a : Int} (hT : Has w T (rcreateOf W cls a c point slot gen P g mk cl ofs code true) 127) : Calls Tryz.prog 59 #[.pointer (some ⟨T, 0, none⟩)] w fun e w' => e = .returned (.bool false) ∧ w = w' := by
  have FX_ := (hT).facts; simp only [blockFacts, listFacts, cellsAt, Nat.reduceAdd, and_true, true_and, and_assoc] at FX_
  go_enter Tryz.func59, Tryz.ntmps59
  go_wp2
  go_ret
  exact ⟨rfl, rfl⟩
theorem rcr_load (hT : Has w T (rcreateOf W cls 1 c point slot gen P g mk cl ofs code false) 127) (hW : Has w W (rwOf p k d s cz b gg Pl Sp E) 85) (M : RMem w gg gb N l cc) (hq : crootI p k d s cz b slot = q) (ho : l[q]? = some o) (o0 : 0 ≤ o) (o1 : o < 18446744073709551616) (c0 : 0 ≤ c) (c1 : c < 1000000) (hcc : cc < 4611686018427387903) :
    Calls Tryz.prog 59 #[.pointer (some ⟨T, 0, none⟩)] w fun e w' => e = .returned (.bool true) ∧ Upd [T, gg, gb] w w' ∧ Has w' T (rcreateOf W cls 2 (c + 1) point slot gen P (o / 4294967296) (o / 65536 % 65536) (o / 4096 % 16) (o % 4096) code false) 127 ∧ RMem w' gg gb N l (cc + 1) := by
  have HQ := Lib.hid hq
  have HO := Lib.hid ho
  have nTg : T ≠ gg := hT.ne M.hg (by decide)
  have nTb : T ≠ gb := hT.ne M.hb (by decide)
  have nTW : T ≠ W := hT.ne hW (by decide)
  have nWT := Ne.symm nTW
  have nWg : W ≠ gg := hW.ne M.hg (by decide)
  have nWb : W ≠ gb := hW.ne M.hb (by decide)
  clear hq ho
  have HT := hT
  have HW := hW
  have FX_ := (hT).facts; simp only [blockFacts, listFacts, cellsAt, Nat.reduceAdd, and_true, true_and, and_assoc] at FX_
  have FX_ := (hW).facts; simp only [blockFacts, listFacts, cellsAt, Nat.reduceAdd, and_true, true_and, and_assoc, rwOf] at FX_
  go_enter Tryz.func59, Tryz.ntmps59
  go_upto_region 21 with fail
  refine wp_named' (fun W1 hW1 => ?_)
  have HT : Has W1 T (rcreateOf W cls 1 (c + 1) point slot gen P g mk cl ofs code false) 127 := by rw [hW1]; (apply Has.congr; (focus ((repeat (first | (with_reducible assumption) | (with_reducible exact Has.new _ _ _) | (with_reducible exact Has.new1 _ _ _ _) | (with_reducible exact Has.new2 _ _ _ _ _) | (with_reducible refine Has.newAt ?_; (simp; done)) | (with_reducible apply Has.set) | (with_reducible apply Has.far; (case hn => first | assumption | (simp; done) | (intro e_; simp at e_; omega))) | (with_reducible apply Has.alloc) | (with_reducible apply Has.drewN) | (with_reducible apply Has.drew) | (with_reducible refine Has.keeps ?_ (by with_reducible assumption)))))); (first | rfl | (simp; done)))
  have HW : Has W1 W (rwOf p k d s cz b gg Pl Sp E) 85 := by rw [hW1]; (apply Has.congr; (focus ((repeat (first | (with_reducible assumption) | (with_reducible exact Has.new _ _ _) | (with_reducible exact Has.new1 _ _ _ _) | (with_reducible exact Has.new2 _ _ _ _ _) | (with_reducible refine Has.newAt ?_; (simp; done)) | (with_reducible apply Has.set) | (with_reducible apply Has.far; (case hn => first | assumption | (simp; done) | (intro e_; simp at e_; omega))) | (with_reducible apply Has.alloc) | (with_reducible apply Has.drewN) | (with_reducible apply Has.drew) | (with_reducible refine Has.keeps ?_ (by with_reducible assumption)))))); (first | rfl | (simp; done)))
  have hu0 : Upd [T, gg, gb] w W1 := by rw [hW1]; (repeat (first | (with_reducible exact Upd.refl _ _) | (with_reducible assumption) | (with_reducible refine Upd.setCell ?_ (by first | (left; simp; done) | (right; go_size)) _) | (with_reducible refine Upd.alloc ?_ _) | (with_reducible refine Upd.drewN ?_ _) | (with_reducible refine Upd.drew ?_)))
  have M : RMem W1 gg gb N l cc := M.upd (S := [T]) (by rw [hW1]; (repeat (first | (with_reducible exact Upd.refl _ _) | (with_reducible assumption) | (with_reducible refine Upd.setCell ?_ (by first | (left; simp; done) | (right; go_size)) _) | (with_reducible refine Upd.alloc ?_ _) | (with_reducible refine Upd.drewN ?_ _) | (with_reducible refine Upd.drew ?_)))) (by simpa using Ne.symm nTg) (by simpa using Ne.symm nTb)
  clear hW1
  have HKp := Keeps.refl W1
  have HT0 := HT
  go_region_held3 (fun y => ((((((((y.cell? ⟨T, 0, none⟩ = some (.pointer (some ⟨W, 0, none⟩)) ∧ y.cell? ⟨W, 0, none⟩ = some (.int .i64 p)) ∧ y.cell? ⟨W, 1, none⟩ = some (.int .i64 k)) ∧ y.cell? ⟨W, 2, none⟩ = some (.int .i64 d)) ∧ y.cell? ⟨W, 3, none⟩ = some (.int .i64 s)) ∧ y.cell? ⟨W, 4, none⟩ = some (.int .i64 cz)) ∧ y.cell? ⟨W, 5, none⟩ = some (.int .i64 b)) ∧ y.cell? ⟨W, 6, none⟩ = some (.pointer (some ⟨gg, 0, none⟩))) ∧ y.cell? ⟨T, 5, none⟩ = some (.int .i64 slot))) (((repeat' (with_reducible apply And.intro)) <;> (apply Has.cellv; (focus ((repeat (first | (with_reducible assumption) | (with_reducible exact Has.new _ _ _) | (with_reducible exact Has.new1 _ _ _ _) | (with_reducible exact Has.new2 _ _ _ _ _) | (with_reducible refine Has.newAt ?_; (simp; done)) | (with_reducible apply Has.set) | (with_reducible apply Has.far; (case hn => first | assumption | (simp; done) | (intro e_; simp at e_; omega))) | (with_reducible apply Has.alloc) | (with_reducible apply Has.drewN) | (with_reducible apply Has.drew) | (with_reducible refine Has.keeps ?_ (by with_reducible assumption)))))); (first | (with_reducible assumption) | rfl | (simp; done) | fail))))
    (first
      | (go_at_call 101; refine (rcroot_c _ _ _ _ _ _ _ _).mono ?_; rintro e w' ⟨rfl, hk5⟩; rw [HQ.out]; have HT := (HT.keeps (by ((repeat' (first | (with_reducible exact Keeps.refl _) | (with_reducible assumption) | (with_reducible refine Keeps.drewN ?_ _) | (with_reducible refine Keeps.drew ?_) | (with_reducible refine Keeps.alloc ?_ _) | (with_reducible refine Keeps.setCell ?_ ?_ _) | (with_reducible refine Keeps.trans ?_ (After.keeps _)) | (with_reducible refine Keeps.trans ?_ (by with_reducible assumption)) | go_size)); (first | done | fail)))).keeps hk5; have HW := (HW.keeps (by ((repeat' (first | (with_reducible exact Keeps.refl _) | (with_reducible assumption) | (with_reducible refine Keeps.drewN ?_ _) | (with_reducible refine Keeps.drew ?_) | (with_reducible refine Keeps.alloc ?_ _) | (with_reducible refine Keeps.setCell ?_ ?_ _) | (with_reducible refine Keeps.trans ?_ (After.keeps _)) | (with_reducible refine Keeps.trans ?_ (by with_reducible assumption)) | go_size)); (first | done | fail)))).keeps hk5; have HKp := (HKp.drew).trans hk5)
      | (go_at_call 100; refine (rmload (M.keeps HKp) q HO.out hcc).mono ?_; rintro e w' ⟨rfl, hu2, M2⟩; have HT := HT.upd hu2 (by simp only [List.mem_cons, List.not_mem_nil, or_false, not_or]; (repeat' apply And.intro) <;> assumption); have HW := HW.upd hu2 (by simp only [List.mem_cons, List.not_mem_nil, or_false, not_or]; (repeat' apply And.intro) <;> assumption))
      | (go_at_call 99; refine (rgetRoot_c _ _ o0 o1).mono ?_; rintro e w' ⟨rfl, hk6⟩; have HT := HT.keeps hk6; have HW := HW.keeps hk6; have M2 := M2.keeps hk6; have hu2 := hu2.trans (Upd.of_keeps hk6); have FX_ := (HT).facts; simp only [blockFacts, listFacts, cellsAt, Nat.reduceAdd, and_true, true_and, and_assoc] at FX_))
  go_wp2
  go_ret
  generalize hWf : World.setCell _ _ _ = Wf
  have hS : Upd [T] w' Wf := by rw [← hWf]; (repeat (first | (with_reducible exact Upd.refl _ _) | (with_reducible assumption) | (with_reducible refine Upd.setCell ?_ (by first | (left; simp; done) | (right; go_size)) _) | (with_reducible refine Upd.alloc ?_ _) | (with_reducible refine Upd.drewN ?_ _) | (with_reducible refine Upd.drew ?_)))
  exact ⟨rfl, ((hu0.trans (Upd.of_keeps HKp)).trans (hu2.mono (by simp))).trans (hS.mono (by simp)), by rw [← hWf]; (apply Has.congr; (focus ((repeat (first | (with_reducible assumption) | (with_reducible exact Has.new _ _ _) | (with_reducible exact Has.new1 _ _ _ _) | (with_reducible exact Has.new2 _ _ _ _ _) | (with_reducible refine Has.newAt ?_; (simp; done)) | (with_reducible apply Has.set) | (with_reducible apply Has.far; (case hn => first | assumption | (simp; done) | (intro e_; simp at e_; omega))) | (with_reducible apply Has.alloc) | (with_reducible apply Has.drewN) | (with_reducible apply Has.drew) | (with_reducible refine Has.keeps ?_ (by with_reducible assumption)))))); (first | rfl | (simp; done))), M2.upd hS (by simpa using Ne.symm nTg) (by simpa using Ne.symm nTb)⟩
theorem rcr_store (hT : Has w T (rcreateOf W cls 2 c point slot gen P g mk cl ofs code false) 127) (hW : Has w W (rwOf p k d s cz b gg Pl Sp E) 85) (M : RMem w gg gb N l cc) (hq : crootI p k d s cz b slot = q) (ho : l[q]? = some o) (g0 : 0 ≤ g) (c0 : 0 ≤ c) (c1 : c < 1000000) (hcc : cc < 4611686018427387903) :
    Calls Tryz.prog 59 #[.pointer (some ⟨T, 0, none⟩)] w fun e w' => e = .returned (.bool true) ∧ Upd [T, gg, gb] w w' ∧ Has w' T (rcreateOf W cls 2 (c + 1) point slot (genN g) P g mk cl ofs code true) 127 ∧ RMem w' gg gb N (l.set q (rootI (genN g) 1 cls 0)) (cc + 1) := by
  have HQ := Lib.hid hq
  have HO := Lib.hid ho
  have nTg : T ≠ gg := hT.ne M.hg (by decide)
  have nTb : T ≠ gb := hT.ne M.hb (by decide)
  have nTW : T ≠ W := hT.ne hW (by decide)
  have nWT := Ne.symm nTW
  have nWg : W ≠ gg := hW.ne M.hg (by decide)
  have nWb : W ≠ gb := hW.ne M.hb (by decide)
  clear hq ho
  have HT := hT
  have HW := hW
  have FX_ := (hT).facts; simp only [blockFacts, listFacts, cellsAt, Nat.reduceAdd, and_true, true_and, and_assoc] at FX_
  have FX_ := (hW).facts; simp only [blockFacts, listFacts, cellsAt, Nat.reduceAdd, and_true, true_and, and_assoc, rwOf] at FX_
  go_enter Tryz.func59, Tryz.ntmps59
  go_upto_region 7 with (go_at_call 102; refine (rlater_c _ _ g0).mono ?_; rintro e w' ⟨rfl, rfl⟩)
  refine wp_named' (fun W1 hW1 => ?_)
  have HT : Has W1 T (rcreateOf W cls 2 (c + 1) point slot (genN g) P g mk cl ofs code false) 127 := by rw [hW1]; (apply Has.congr; (focus ((repeat (first | (with_reducible assumption) | (with_reducible exact Has.new _ _ _) | (with_reducible exact Has.new1 _ _ _ _) | (with_reducible exact Has.new2 _ _ _ _ _) | (with_reducible refine Has.newAt ?_; (simp; done)) | (with_reducible apply Has.set) | (with_reducible apply Has.far; (case hn => first | assumption | (simp; done) | (intro e_; simp at e_; omega))) | (with_reducible apply Has.alloc) | (with_reducible apply Has.drewN) | (with_reducible apply Has.drew) | (with_reducible refine Has.keeps ?_ (by with_reducible assumption)))))); (first | rfl | (simp; done)))
  have HW : Has W1 W (rwOf p k d s cz b gg Pl Sp E) 85 := by rw [hW1]; (apply Has.congr; (focus ((repeat (first | (with_reducible assumption) | (with_reducible exact Has.new _ _ _) | (with_reducible exact Has.new1 _ _ _ _) | (with_reducible exact Has.new2 _ _ _ _ _) | (with_reducible refine Has.newAt ?_; (simp; done)) | (with_reducible apply Has.set) | (with_reducible apply Has.far; (case hn => first | assumption | (simp; done) | (intro e_; simp at e_; omega))) | (with_reducible apply Has.alloc) | (with_reducible apply Has.drewN) | (with_reducible apply Has.drew) | (with_reducible refine Has.keeps ?_ (by with_reducible assumption)))))); (first | rfl | (simp; done)))
  have hu0 : Upd [T, gg, gb] w W1 := by rw [hW1]; (repeat (first | (with_reducible exact Upd.refl _ _) | (with_reducible assumption) | (with_reducible refine Upd.setCell ?_ (by first | (left; simp; done) | (right; go_size)) _) | (with_reducible refine Upd.alloc ?_ _) | (with_reducible refine Upd.drewN ?_ _) | (with_reducible refine Upd.drew ?_)))
  have M : RMem W1 gg gb N l cc := M.upd (S := [T]) (by rw [hW1]; (repeat (first | (with_reducible exact Upd.refl _ _) | (with_reducible assumption) | (with_reducible refine Upd.setCell ?_ (by first | (left; simp; done) | (right; go_size)) _) | (with_reducible refine Upd.alloc ?_ _) | (with_reducible refine Upd.drewN ?_ _) | (with_reducible refine Upd.drew ?_)))) (by simpa using Ne.symm nTg) (by simpa using Ne.symm nTb)
  clear hW1
  have HKp := Keeps.refl W1
  go_region_held3 (fun y => y.cell? ⟨T, 6, none⟩ = some (.int .i64 (genN g)) ∧ y.cell? ⟨T, 1, none⟩ = some (.int .i64 cls)) (((repeat' (with_reducible apply And.intro)) <;> (apply Has.cellv; (focus ((repeat (first | (with_reducible assumption) | (with_reducible exact Has.new _ _ _) | (with_reducible exact Has.new1 _ _ _ _) | (with_reducible exact Has.new2 _ _ _ _ _) | (with_reducible refine Has.newAt ?_; (simp; done)) | (with_reducible apply Has.set) | (with_reducible apply Has.far; (case hn => first | assumption | (simp; done) | (intro e_; simp at e_; omega))) | (with_reducible apply Has.alloc) | (with_reducible apply Has.drewN) | (with_reducible apply Has.drew) | (with_reducible refine Has.keeps ?_ (by with_reducible assumption)))))); (first | (with_reducible assumption) | rfl | (simp; done) | fail))))
    ((go_at_call 103; refine (rputRoot_c _ _ _ _ _).mono ?_; rintro e w' ⟨rfl, hk5⟩; have HT := (HT.keeps (by ((repeat' (first | (with_reducible exact Keeps.refl _) | (with_reducible assumption) | (with_reducible refine Keeps.drewN ?_ _) | (with_reducible refine Keeps.drew ?_) | (with_reducible refine Keeps.alloc ?_ _) | (with_reducible refine Keeps.setCell ?_ ?_ _) | (with_reducible refine Keeps.trans ?_ (After.keeps _)) | (with_reducible refine Keeps.trans ?_ (by with_reducible assumption)) | go_size)); (first | done | fail)))).keeps hk5; have HW := (HW.keeps (by ((repeat' (first | (with_reducible exact Keeps.refl _) | (with_reducible assumption) | (with_reducible refine Keeps.drewN ?_ _) | (with_reducible refine Keeps.drew ?_) | (with_reducible refine Keeps.alloc ?_ _) | (with_reducible refine Keeps.setCell ?_ ?_ _) | (with_reducible refine Keeps.trans ?_ (After.keeps _)) | (with_reducible refine Keeps.trans ?_ (by with_reducible assumption)) | go_size)); (first | done | fail)))).keeps hk5; have HKp := (HKp.drew).trans hk5))
  have HKq := Keeps.refl w'
  have M := M.keeps HKp
  have hu0 := hu0.trans (Upd.of_keeps HKp)
  go_wp2
  go_region_held3 (fun y => ((((((((y.cell? ⟨T, 0, none⟩ = some (.pointer (some ⟨W, 0, none⟩)) ∧ y.cell? ⟨W, 0, none⟩ = some (.int .i64 p)) ∧ y.cell? ⟨W, 1, none⟩ = some (.int .i64 k)) ∧ y.cell? ⟨W, 2, none⟩ = some (.int .i64 d)) ∧ y.cell? ⟨W, 3, none⟩ = some (.int .i64 s)) ∧ y.cell? ⟨W, 4, none⟩ = some (.int .i64 cz)) ∧ y.cell? ⟨W, 5, none⟩ = some (.int .i64 b)) ∧ y.cell? ⟨W, 6, none⟩ = some (.pointer (some ⟨gg, 0, none⟩))) ∧ y.cell? ⟨T, 5, none⟩ = some (.int .i64 slot))) (((repeat' (with_reducible apply And.intro)) <;> (apply Has.cellv; (focus ((repeat (first | (with_reducible assumption) | (with_reducible exact Has.new _ _ _) | (with_reducible exact Has.new1 _ _ _ _) | (with_reducible exact Has.new2 _ _ _ _ _) | (with_reducible refine Has.newAt ?_; (simp; done)) | (with_reducible apply Has.set) | (with_reducible apply Has.far; (case hn => first | assumption | (simp; done) | (intro e_; simp at e_; omega))) | (with_reducible apply Has.alloc) | (with_reducible apply Has.drewN) | (with_reducible apply Has.drew) | (with_reducible refine Has.keeps ?_ (by with_reducible assumption)))))); (first | (with_reducible assumption) | rfl | (simp; done) | fail))))
    (first
      | (go_at_call 101; refine (rcroot_c _ _ _ _ _ _ _ _).mono ?_; rintro e w' ⟨rfl, hk5⟩; rw [HQ.out]; have HT := (HT.keeps (by ((repeat' (first | (with_reducible exact Keeps.refl _) | (with_reducible assumption) | (with_reducible refine Keeps.drewN ?_ _) | (with_reducible refine Keeps.drew ?_) | (with_reducible refine Keeps.alloc ?_ _) | (with_reducible refine Keeps.setCell ?_ ?_ _) | (with_reducible refine Keeps.trans ?_ (After.keeps _)) | (with_reducible refine Keeps.trans ?_ (by with_reducible assumption)) | go_size)); (first | done | fail)))).keeps hk5; have HW := (HW.keeps (by ((repeat' (first | (with_reducible exact Keeps.refl _) | (with_reducible assumption) | (with_reducible refine Keeps.drewN ?_ _) | (with_reducible refine Keeps.drew ?_) | (with_reducible refine Keeps.alloc ?_ _) | (with_reducible refine Keeps.setCell ?_ ?_ _) | (with_reducible refine Keeps.trans ?_ (After.keeps _)) | (with_reducible refine Keeps.trans ?_ (by with_reducible assumption)) | go_size)); (first | done | fail)))).keeps hk5; have HKq := (HKq.drew).trans hk5)
      | (go_at_call 104; refine (rmstore (M.keeps HKq) q _ HO.out hcc).mono ?_; rintro e w' ⟨rfl, hu2, M2⟩; have HT := HT.upd hu2 (by simp only [List.mem_cons, List.not_mem_nil, or_false, not_or]; (repeat' apply And.intro) <;> assumption); have HW := HW.upd hu2 (by simp only [List.mem_cons, List.not_mem_nil, or_false, not_or]; (repeat' apply And.intro) <;> assumption); have FX_ := (HT).facts; simp only [blockFacts, listFacts, cellsAt, Nat.reduceAdd, and_true, true_and, and_assoc] at FX_))
  go_wp2
  go_ret
  generalize hWf : World.setCell _ _ _ = Wf
  have hS : Upd [T] w' Wf := by rw [← hWf]; (repeat (first | (with_reducible exact Upd.refl _ _) | (with_reducible assumption) | (with_reducible refine Upd.setCell ?_ (by first | (left; simp; done) | (right; go_size)) _) | (with_reducible refine Upd.alloc ?_ _) | (with_reducible refine Upd.drewN ?_ _) | (with_reducible refine Upd.drew ?_)))
  exact ⟨rfl, ((hu0.trans (Upd.of_keeps HKq)).trans (hu2.mono (by simp))).trans (hS.mono (by simp)), by rw [← hWf]; (apply Has.congr; (focus ((repeat (first | (with_reducible assumption) | (with_reducible exact Has.new _ _ _) | (with_reducible exact Has.new1 _ _ _ _) | (with_reducible exact Has.new2 _ _ _ _ _) | (with_reducible refine Has.newAt ?_; (simp; done)) | (with_reducible apply Has.set) | (with_reducible apply Has.far; (case hn => first | assumption | (simp; done) | (intro e_; simp at e_; omega))) | (with_reducible apply Has.alloc) | (with_reducible apply Has.drewN) | (with_reducible apply Has.drew) | (with_reducible refine Has.keeps ?_ (by with_reducible assumption)))))); (first | rfl | (simp; done))), M2.upd hS (by simpa using Ne.symm nTg) (by simpa using Ne.symm nTb)⟩
end
end Go.Proofs.YtaecapjicphdkaaGreat

/- Create by himself: so many steps; the plain law. -/
namespace Go.Proofs.YtaecapjicphdkaaGreat
set_option linter.unusedVariables false
set_option linter.unusedSimpArgs false
open Go Go.RowKit
set_option maxRecDepth 100000
set_option maxHeartbeats 1000000

def cr0 : Cr := ⟨0, 0, -1, 0, 0, 0, 0, 0, 0, ⟨0, 0, 1, 0, 0, []⟩⟩
def crRun (hd lk n ra : Nat) (cls : Int) : Nat → List Int × Cr → List Int × Cr
  | 0, p => p
  | k + 1, p => (crMem hd ra (crRun hd lk n ra cls k p).1 (crRun hd lk n ra cls k p).2, crStep hd lk n ra cls (crRun hd lk n ra cls k p).1 (crRun hd lk n ra cls k p).2)
theorem rootI_bd (g m c o : Int) : 0 ≤ rootI g m c o ∧ rootI g m c o < 18446744073709551616 := by
  unfold rootI
  split
  · rename_i h
    have := rootB_true.1 h
    omega
  · omega
structure CrInv (n : Nat) (C : Int) (s : Cr) : Prop where
  pop : PoInv n C s.pop
  ph : s.ph = 0 → s.pop.ph < 3
  slot : s.ph = 1 ∨ s.ph = 2 → 0 ≤ s.slot ∧ s.slot < n
  c0 : 0 ≤ s.c
  c1 : s.c ≤ C
theorem CrInv.ok {n : Nat} {C : Int} {s : Cr} (h : CrInv n C s) (hC : C ≤ 800000) : CrOk n s :=
  ⟨h.pop.mono hC, h.ph, h.slot, h.c0, by have := h.c1; omega⟩
theorem CrInv.mono {n : Nat} {C D : Int} {s : Cr} (h : CrInv n C s) (hC : C ≤ D) : CrInv n D s := ⟨h.pop.mono hC, h.ph, h.slot, h.c0, by have := h.c1; omega⟩
theorem StOk.cr {hd lk n N ra : Nat} {l : List Int} (h : StOk hd lk n N l) (s : Cr) : StOk hd lk n N (crMem hd ra l s) := by
  unfold crMem
  split
  · exact h.po _
  · exact h.set _ _ (rootI_bd _ _ _ _).1 (rootI_bd _ _ _ _).2
  · exact h
theorem CrInv.step {hd lk n N ra : Nat} {cls C : Int} {l : List Int} {s : Cr} (H : CrInv n C s) (h : StOk hd lk n N l) : CrInv n (C + 1) (crStep hd lk n ra cls l s) := by
  obtain ⟨ph, c, slot, point, g, mark, cl, ofs, code, pop⟩ := s
  have c0 := H.c0
  have c1 := H.c1
  have hp := H.pop.step h
  dsimp only at c0 c1 hp
  match ph, H with
  | 0, H =>
    show CrInv n (C + 1) (crPopped cls ⟨0, c, slot, point, g, mark, cl, ofs, code, pop⟩ (poStep hd lk n l pop))
    unfold crPopped
    split
    · rename_i h3
      exact ⟨hp, fun _ => h3, fun e => by simp at e, by show 0 ≤ c + 1; omega, by show c + 1 ≤ C + 1; omega⟩
    · split
      · exact ⟨hp, fun e => by simp at e, fun e => by simp at e, by show 0 ≤ c + 1; omega, by show c + 1 ≤ C + 1; omega⟩
      · rename_i h3 h4
        refine ⟨hp, fun e => by simp at e, fun _ => ?_, by show 0 ≤ c + 1; omega, by show c + 1 ≤ C + 1; omega⟩
        obtain ⟨z, zs, hz⟩ := List.exists_cons_of_ne_nil h4
        have := hp.items z (by rw [hz]; simp)
        show 0 ≤ (poStep hd lk n l pop).got.getD 0 0 ∧ (poStep hd lk n l pop).got.getD 0 0 < n
        rw [hz]; exact this
  | 1, H => exact ⟨H.pop.mono (by omega), fun e => by simp [crStep] at e, fun _ => H.slot (.inl rfl), by show 0 ≤ c + 1; omega, by show c + 1 ≤ C + 1; omega⟩
  | 2, H => exact ⟨H.pop.mono (by omega), fun e => by simp [crStep] at e, fun e => by simp [crStep] at e, by show 0 ≤ c + 1; omega, by show c + 1 ≤ C + 1; omega⟩
  | k + 3, H => exact H.mono (by omega)
theorem crRun_inv {hd lk n N ra : Nat} {cls C : Int} {p : List Int × Cr} (h : StOk hd lk n N p.1) (H : CrInv n C p.2) : ∀ k : Nat, StOk hd lk n N (crRun hd lk n ra cls k p).1 ∧ CrInv n (C + k) (crRun hd lk n ra cls k p).2
  | 0 => ⟨h, H.mono (by simp)⟩
  | k + 1 => by
    have ih := crRun_inv (ra := ra) (cls := cls) h H k
    exact ⟨ih.1.cr _, (ih.2.step ih.1).mono (by omega)⟩
theorem cr0_inv (n : Nat) : CrInv n 0 cr0 :=
  ⟨⟨fun e => by simp [cr0] at e, by simp [cr0], by simp [cr0], by simp [cr0], by simp [cr0], by simp [cr0], by simp [cr0]⟩, fun _ => by simp [cr0], fun e => by simp [cr0] at e, by simp [cr0], by simp [cr0]⟩
theorem crStep_count (hd lk n ra : Nat) (cls : Int) (l : List Int) (s : Cr) : (crStep hd lk n ra cls l s).c = s.c + crCount s := by
  obtain ⟨ph, c, slot, point, g, mark, cl, ofs, code, pop⟩ := s
  match ph with
  | 0 =>
    show (crPopped cls ⟨0, c, slot, point, g, mark, cl, ofs, code, pop⟩ (poStep hd lk n l pop)).c = c + 1
    unfold crPopped
    split
    · rfl
    · split <;> rfl
  | 1 => rfl
  | 2 => rfl
  | k + 3 =>
    have e1 : crCount ⟨k + 3, c, slot, point, g, mark, cl, ofs, code, pop⟩ = 0 := by unfold crCount; rw [if_neg (show ¬ k + 3 < 3 by omega)]
    rw [e1, Int.add_zero]; rfl
theorem crRun_stop {hd lk n ra k : Nat} {cls : Int} {p : List Int × Cr} (h : (crRun hd lk n ra cls k p).2.ph = 3) : ∀ j : Nat, crRun hd lk n ra cls (k + j) p = crRun hd lk n ra cls k p
  | 0 => rfl
  | j + 1 => by
    show (crMem hd ra (crRun hd lk n ra cls (k + j) p).1 (crRun hd lk n ra cls (k + j) p).2, crStep hd lk n ra cls (crRun hd lk n ra cls (k + j) p).1 (crRun hd lk n ra cls (k + j) p).2) = _
    rw [crRun_stop h j]
    generalize crRun hd lk n ra cls k p = r at *
    obtain ⟨l, ph, c, slot, point, g, mark, cl, ofs, code, pop⟩ := r
    have h : ph = 3 := h
    subst h
    rfl
theorem poRun_other {hd lk n i : Nat} {p : List Int × Po} (hi : i ≠ hd) : ∀ k : Nat, (poRun hd lk n k p).1.getD i 0 = p.1.getD i 0
  | 0 => rfl
  | k + 1 => by
    show (poMem hd (poRun hd lk n k p).1 (poRun hd lk n k p).2).getD i 0 = _
    rw [← poRun_other hi k]
    generalize poRun hd lk n k p = r
    unfold poMem
    split
    · split
      · exact getD_set_ne _ (Ne.symm hi)
      · rfl
    · rfl
theorem crRun_pop {hd lk n ra : Nat} {cls : Int} {l : List Int} : ∀ k : Nat, (∀ j : Nat, j ≤ k → (poRun hd lk n j (l, ⟨0, 0, 1, 0, 0, []⟩)).2.ph < 3) →
    crRun hd lk n ra cls k (l, cr0) = ((poRun hd lk n k (l, ⟨0, 0, 1, 0, 0, []⟩)).1, ⟨0, k, -1, 0, 0, 0, 0, 0, 0, (poRun hd lk n k (l, ⟨0, 0, 1, 0, 0, []⟩)).2⟩)
  | 0, _ => rfl
  | k + 1, h => by
    show (crMem hd ra (crRun hd lk n ra cls k (l, cr0)).1 (crRun hd lk n ra cls k (l, cr0)).2, crStep hd lk n ra cls (crRun hd lk n ra cls k (l, cr0)).1 (crRun hd lk n ra cls k (l, cr0)).2) = _
    rw [crRun_pop k (fun j hj => h j (by omega))]
    have h1 := h (k + 1) (Nat.le_refl _)
    show (poMem hd _ _, crPopped cls _ (poStep hd lk n (poRun hd lk n k (l, ⟨0, 0, 1, 0, 0, []⟩)).1 (poRun hd lk n k (l, ⟨0, 0, 1, 0, 0, []⟩)).2)) = _
    have e1 : poStep hd lk n (poRun hd lk n k (l, ⟨0, 0, 1, 0, 0, []⟩)).1 (poRun hd lk n k (l, ⟨0, 0, 1, 0, 0, []⟩)).2 = (poRun hd lk n (k + 1) (l, ⟨0, 0, 1, 0, 0, []⟩)).2 := rfl
    rw [e1]
    unfold crPopped
    rw [if_pos h1]
    simp only [poRun]
    congr 2
section
variable {hd lk n N T ra : Nat} {l L : List Int} {cls z : Int}
theorem StRep.out {i : Nat} {v : Int} (h : StRep hd lk n N l T L) (h1 : i ≠ hd) (h2 : i < lk ∨ lk + n ≤ i) (v0 : 0 ≤ v) (v1 : v < 18446744073709551616) : StRep hd lk n N (l.set i v) T L := by
  have e := getD_set_ne (l := l) v h1
  refine ⟨h.ok.set _ _ v0 v1, h.apart, by rw [e]; exact h.tag, by rw [e]; exact h.low, ?_, h.nodup⟩
  rw [e]
  exact h.lnk.frame fun y hy => getD_set_ne _ (by have := h.lnk.items y hy; omega)
/-- A Create by himself: there was a slot. -/
theorem cr_some (h : StRep hd lk n N l T (z :: L)) (hT : T < 4294967290) (hr : ra ≠ hd ∧ (hd < ra ∨ ra + n ≤ hd)) (hr2 : ra + n ≤ lk ∨ lk + n ≤ ra) :
    ∃ pop l', crRun hd lk n ra cls 5 (l, cr0) = (l'.set (ra + z.toNat) (rootI (genN (l.getD (ra + z.toNat) 0 / 4294967296)) 1 cls 0), ⟨3, 5, z, 3, genN (l.getD (ra + z.toNat) 0 / 4294967296), 1, cls, 0, 0, pop⟩) ∧ StRep hd lk n N l' (T + 1) L ∧ (∀ i : Nat, i ≠ hd → l'.getD i 0 = l.getD i 0) ∧ l'.length = l.length := by
  obtain ⟨f, l', under, was, e, hS⟩ := pop_some (most := 1) h (by simp) (by omega) 1 (by simp) (by omega) (by omega) hT
  have hz := h.lnk.items z (by simp)
  have f' : ∀ j : Nat, j ≤ 2 → (poRun hd lk n j (l, ⟨0, 0, 1, 0, 0, []⟩)).2.ph < 3 := fun j hj => by simpa using f j (by omega)
  have e2 := crRun_pop (ra := ra) (cls := cls) 2 f'
  have eo : ∀ i : Nat, i ≠ hd → l'.getD i 0 = l.getD i 0 := fun i hi => by
    have := poRun_other (lk := lk) (n := n) (p := (l, ⟨0, 0, 1, 0, 0, []⟩)) hi 3
    rw [show (3 : Nat) = 1 + 2 from rfl, e] at this
    exact this
  have hpo : (poMem hd (poRun hd lk n 2 (l, ⟨0, 0, 1, 0, 0, []⟩)).1 (poRun hd lk n 2 (l, ⟨0, 0, 1, 0, 0, []⟩)).2, poStep hd lk n (poRun hd lk n 2 (l, ⟨0, 0, 1, 0, 0, []⟩)).1 (poRun hd lk n 2 (l, ⟨0, 0, 1, 0, 0, []⟩)).2) = (l', ⟨3, 0 + (1 + 2), 1, under, was, [z]⟩) := e
  obtain ⟨hp1, hp2⟩ := Prod.mk.inj hpo
  have e3 : crRun hd lk n ra cls 3 (l, cr0) = (l', ⟨1, 3, z, 3, 0, 0, 0, 0, 0, ⟨3, 0 + (1 + 2), 1, under, was, [z]⟩⟩) := by
    show (crMem hd ra (crRun hd lk n ra cls 2 (l, cr0)).1 (crRun hd lk n ra cls 2 (l, cr0)).2, crStep hd lk n ra cls (crRun hd lk n ra cls 2 (l, cr0)).1 (crRun hd lk n ra cls 2 (l, cr0)).2) = _
    rw [e2]
    show (poMem hd _ _, crPopped cls _ (poStep hd lk n _ _)) = _
    rw [hp1, hp2]
    rfl
  have e4 : crRun hd lk n ra cls 4 (l, cr0) = (l', ⟨2, 4, z, 3, genN (l.getD (ra + z.toNat) 0 / 4294967296), 1, cls, 0, 0, ⟨3, 0 + (1 + 2), 1, under, was, [z]⟩⟩) := by
    show (crMem hd ra (crRun hd lk n ra cls 3 (l, cr0)).1 (crRun hd lk n ra cls 3 (l, cr0)).2, crStep hd lk n ra cls (crRun hd lk n ra cls 3 (l, cr0)).1 (crRun hd lk n ra cls 3 (l, cr0)).2) = _
    rw [e3]
    show (l', (⟨2, 4, z, 3, genN (l'.getD (ra + z.toNat) 0 / 4294967296), 1, cls, 0, 0, _⟩ : Cr)) = _
    rw [eo _ (by omega)]
  refine ⟨⟨3, 0 + (1 + 2), 1, under, was, [z]⟩, l', ?_, hS, eo, by rw [hS.ok.len, h.ok.len]⟩
  show (crMem hd ra (crRun hd lk n ra cls 4 (l, cr0)).1 (crRun hd lk n ra cls 4 (l, cr0)).2, crStep hd lk n ra cls (crRun hd lk n ra cls 4 (l, cr0)).1 (crRun hd lk n ra cls 4 (l, cr0)).2) = _
  rw [e4]
  rfl
/-- A Create by himself: there was none. -/
theorem cr_none (h : StRep hd lk n N l T []) : crRun hd lk n ra cls 1 (l, cr0) = (l, ⟨3, 1, -1, 1, 0, 0, 0, 0, 7, ⟨3, 1, 1, 0, l.getD hd 0, []⟩⟩) := by
  have e := pop_none h 1
  have hpo : (poMem hd l ⟨0, 0, 1, 0, 0, []⟩, poStep hd lk n l ⟨0, 0, 1, 0, 0, []⟩) = (l, ⟨3, 1, 1, 0, l.getD hd 0, []⟩) := e
  obtain ⟨hp1, hp2⟩ := Prod.mk.inj hpo
  show (poMem hd l ⟨0, 0, 1, 0, 0, []⟩, crPopped cls cr0 (poStep hd lk n l ⟨0, 0, 1, 0, 0, []⟩)) = _
  rw [hp1, hp2]
  rfl
end
end Go.Proofs.YtaecapjicphdkaaGreat
