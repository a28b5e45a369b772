/- The document's End (layer 11), walked. -/
import Derived.Test.YtaecapjicphdkaaGreatMg29
import Derived.Test.YtaecapjicphdkaaGreatMg30
namespace Go.Proofs.YtaecapjicphdkaaGreat
set_option linter.unusedVariables false
set_option linter.unusedSimpArgs false
open Go Go.RowKit
set_option maxRecDepth 100000
attribute [local go_sem ↓] Go.wp_at_zero Go.wp_at_succ
set_option maxHeartbeats 1000000

abbrev rendOf (W : Nat) (slot gen a c point chunk old code : Int) (dn : Bool) : Array Value := #[.pointer (some ⟨W, 0, none⟩), .int .i64 slot, .int .i64 gen, .int .i64 a, .int .i64 c, .int .i64 point, .int .i64 chunk, .int .u64 old, .int .i64 code, .bool dn]
section
variable {w : World} {W gg gb N T q : Nat} {l : List Int} {cc : Int} {p k d s cz b : Int} {Pl Sp E : Value} {slot gen c point chunk old code o : Int}
theorem rend_live (hv : liveW o gen = true) (hT : Has w T (rendOf W slot gen 0 c point chunk old code false) 129) (hW : Has w W (rwOf p k d s cz b gg Pl Sp E) 85) (M : RMem w gg gb N l cc) (hq : crootI p k d s cz b slot = q) (ho : l[q]? = some o) (o0 : 0 ≤ o) (o1 : o < 18446744073709551616) (c0 : 0 ≤ c) (c1 : c < 1000000) (hcc : cc < 4611686018427387903) :
    Calls Tryz.prog 60 #[.pointer (some ⟨T, 0, none⟩)] w fun e w' => e = .returned (.bool true) ∧ Upd [T, gg, gb] w w' ∧ Has w' T (rendOf W slot gen 1 (c + 1) point chunk o code false) 129 ∧ RMem w' gg gb N l (cc + 1) := by
  have HQ := Lib.hid hq
  have HO := Lib.hid ho
  have nTg : T ≠ gg := hT.ne M.hg (by decide)
  have nTb : T ≠ gb := hT.ne M.hb (by decide)
  have nTW : T ≠ W := hT.ne hW (by decide)
  have nWT := Ne.symm nTW
  have nWg : W ≠ gg := hW.ne M.hg (by decide)
  have nWb : W ≠ gb := hW.ne M.hb (by decide)
  clear hq ho
  have HV := Lib.hid (show liveB (o / 4294967296) (o / 65536 % 65536) gen = true from hv)
  clear hv
  have HT := hT
  have HW := hW
  have FX_ := (hT).facts; simp only [blockFacts, listFacts, cellsAt, Nat.reduceAdd, and_true, true_and, and_assoc] at FX_
  have FX_ := (hW).facts; simp only [blockFacts, listFacts, cellsAt, Nat.reduceAdd, and_true, true_and, and_assoc, rwOf] at FX_
  go_enter Tryz.func60, Tryz.ntmps60
  go_upto_region 4 with fail
  refine wp_named' (fun W1 hW1 => ?_)
  have HT : Has W1 T (rendOf W slot gen 0 (c + 1) point chunk old code false) 129 := by rw [hW1]; (apply Has.congr; (focus ((repeat (first | (with_reducible assumption) | (with_reducible exact Has.new _ _ _) | (with_reducible exact Has.new1 _ _ _ _) | (with_reducible exact Has.new2 _ _ _ _ _) | (with_reducible refine Has.newAt ?_; (simp; done)) | (with_reducible apply Has.set) | (with_reducible apply Has.far; (case hn => first | assumption | (simp; done) | (intro e_; simp at e_; omega))) | (with_reducible apply Has.alloc) | (with_reducible apply Has.drewN) | (with_reducible apply Has.drew) | (with_reducible refine Has.keeps ?_ (by with_reducible assumption)))))); (first | rfl | (simp; done)))
  have HW : Has W1 W (rwOf p k d s cz b gg Pl Sp E) 85 := by rw [hW1]; (apply Has.congr; (focus ((repeat (first | (with_reducible assumption) | (with_reducible exact Has.new _ _ _) | (with_reducible exact Has.new1 _ _ _ _) | (with_reducible exact Has.new2 _ _ _ _ _) | (with_reducible refine Has.newAt ?_; (simp; done)) | (with_reducible apply Has.set) | (with_reducible apply Has.far; (case hn => first | assumption | (simp; done) | (intro e_; simp at e_; omega))) | (with_reducible apply Has.alloc) | (with_reducible apply Has.drewN) | (with_reducible apply Has.drew) | (with_reducible refine Has.keeps ?_ (by with_reducible assumption)))))); (first | rfl | (simp; done)))
  have hu0 : Upd [T, gg, gb] w W1 := by rw [hW1]; (repeat (first | (with_reducible exact Upd.refl _ _) | (with_reducible assumption) | (with_reducible refine Upd.setCell ?_ (by first | (left; simp; done) | (right; go_size)) _) | (with_reducible refine Upd.alloc ?_ _) | (with_reducible refine Upd.drewN ?_ _) | (with_reducible refine Upd.drew ?_)))
  have M : RMem W1 gg gb N l cc := M.upd (S := [T]) (by rw [hW1]; (repeat (first | (with_reducible exact Upd.refl _ _) | (with_reducible assumption) | (with_reducible refine Upd.setCell ?_ (by first | (left; simp; done) | (right; go_size)) _) | (with_reducible refine Upd.alloc ?_ _) | (with_reducible refine Upd.drewN ?_ _) | (with_reducible refine Upd.drew ?_)))) (by simpa using Ne.symm nTg) (by simpa using Ne.symm nTb)
  clear hW1
  have HKp := Keeps.refl W1
  go_region_held3 (fun y => (((((((y.cell? ⟨T, 0, none⟩ = some (.pointer (some ⟨W, 0, none⟩)) ∧ y.cell? ⟨W, 0, none⟩ = some (.int .i64 p)) ∧ y.cell? ⟨W, 1, none⟩ = some (.int .i64 k)) ∧ y.cell? ⟨W, 2, none⟩ = some (.int .i64 d)) ∧ y.cell? ⟨W, 3, none⟩ = some (.int .i64 s)) ∧ y.cell? ⟨W, 4, none⟩ = some (.int .i64 cz)) ∧ y.cell? ⟨W, 5, none⟩ = some (.int .i64 b)) ∧ y.cell? ⟨T, 1, none⟩ = some (.int .i64 slot))) (((repeat' (with_reducible apply And.intro)) <;> (apply Has.cellv; (focus ((repeat (first | (with_reducible assumption) | (with_reducible exact Has.new _ _ _) | (with_reducible exact Has.new1 _ _ _ _) | (with_reducible exact Has.new2 _ _ _ _ _) | (with_reducible refine Has.newAt ?_; (simp; done)) | (with_reducible apply Has.set) | (with_reducible apply Has.far; (case hn => first | assumption | (simp; done) | (intro e_; simp at e_; omega))) | (with_reducible apply Has.alloc) | (with_reducible apply Has.drewN) | (with_reducible apply Has.drew) | (with_reducible refine Has.keeps ?_ (by with_reducible assumption)))))); (first | (with_reducible assumption) | rfl | (simp; done) | fail))))
    ((go_at_call 101; refine (rcroot_c _ _ _ _ _ _ _ _).mono ?_; rintro e w' ⟨rfl, hk5⟩; rw [HQ.out]; have HT := (HT.keeps (by ((repeat' (first | (with_reducible exact Keeps.refl _) | (with_reducible assumption) | (with_reducible refine Keeps.drewN ?_ _) | (with_reducible refine Keeps.drew ?_) | (with_reducible refine Keeps.alloc ?_ _) | (with_reducible refine Keeps.setCell ?_ ?_ _) | (with_reducible refine Keeps.trans ?_ (After.keeps _)) | (with_reducible refine Keeps.trans ?_ (by with_reducible assumption)) | go_size)); (first | done | fail)))).keeps hk5; have HW := (HW.keeps (by ((repeat' (first | (with_reducible exact Keeps.refl _) | (with_reducible assumption) | (with_reducible refine Keeps.drewN ?_ _) | (with_reducible refine Keeps.drew ?_) | (with_reducible refine Keeps.alloc ?_ _) | (with_reducible refine Keeps.setCell ?_ ?_ _) | (with_reducible refine Keeps.trans ?_ (After.keeps _)) | (with_reducible refine Keeps.trans ?_ (by with_reducible assumption)) | go_size)); (first | done | fail)))).keeps hk5; have HKp := (HKp.drew).trans hk5))
  have M := M.keeps HKp
  have hu0 := hu0.trans (Upd.of_keeps HKp)
  clear FX_
  have FX_ := (HT).facts; simp only [blockFacts, listFacts, cellsAt, Nat.reduceAdd, and_true, true_and, and_assoc] at FX_
  have FT_ := FX_
  clear FX_
  have FX_ := (HW).facts; simp only [blockFacts, listFacts, cellsAt, Nat.reduceAdd, and_true, true_and, and_assoc, rwOf] at FX_
  go_upto_region 7 with (go_at_call 100; refine (rmload M q HO.out hcc).mono ?_; rintro e w' ⟨rfl, hu2, M2⟩; have HT := HT.upd hu2 (by simp only [List.mem_cons, List.not_mem_nil, or_false, not_or]; (repeat' apply And.intro) <;> assumption); have HW := HW.upd hu2 (by simp only [List.mem_cons, List.not_mem_nil, or_false, not_or]; (repeat' apply And.intro) <;> assumption); clear FT_; have FX_ := (HT).facts; simp only [blockFacts, listFacts, cellsAt, Nat.reduceAdd, and_true, true_and, and_assoc] at FX_)
  refine wp_named' (fun W2 hW2 => ?_)
  have hS2 : Upd [T] w' W2 := by rw [hW2]; (repeat (first | (with_reducible exact Upd.refl _ _) | (with_reducible assumption) | (with_reducible refine Upd.setCell ?_ (by first | (left; simp; done) | (right; go_size)) _) | (with_reducible refine Upd.alloc ?_ _) | (with_reducible refine Upd.drewN ?_ _) | (with_reducible refine Upd.drew ?_)))
  have HT2 : Has W2 T (rendOf W slot gen 0 (c + 1) point chunk o code false) 129 := by rw [hW2]; (apply Has.congr; (focus ((repeat (first | (with_reducible assumption) | (with_reducible exact Has.new _ _ _) | (with_reducible exact Has.new1 _ _ _ _) | (with_reducible exact Has.new2 _ _ _ _ _) | (with_reducible refine Has.newAt ?_; (simp; done)) | (with_reducible apply Has.set) | (with_reducible apply Has.far; (case hn => first | assumption | (simp; done) | (intro e_; simp at e_; omega))) | (with_reducible apply Has.alloc) | (with_reducible apply Has.drewN) | (with_reducible apply Has.drew) | (with_reducible refine Has.keeps ?_ (by with_reducible assumption)))))); (first | rfl | (simp; done)))
  have M3 := M2.upd hS2 (by simpa using Ne.symm nTg) (by simpa using Ne.symm nTb)
  have hu3 := (hu0.trans (hu2.mono (by simp))).trans (hS2.mono (by simp))
  clear hW2
  have HK3 := Keeps.refl W2
  go_region_held3 (fun y => y.cell? ⟨T, 7, none⟩ = some (.int .u64 o) ∧ y.cell? ⟨T, 2, none⟩ = some (.int .i64 gen)) (((repeat' (with_reducible apply And.intro)) <;> (apply Has.cellv; (focus ((repeat (first | (with_reducible assumption) | (with_reducible exact Has.new _ _ _) | (with_reducible exact Has.new1 _ _ _ _) | (with_reducible exact Has.new2 _ _ _ _ _) | (with_reducible refine Has.newAt ?_; (simp; done)) | (with_reducible apply Has.set) | (with_reducible apply Has.far; (case hn => first | assumption | (simp; done) | (intro e_; simp at e_; omega))) | (with_reducible apply Has.alloc) | (with_reducible apply Has.drewN) | (with_reducible apply Has.drew) | (with_reducible refine Has.keeps ?_ (by with_reducible assumption)))))); (first | (with_reducible assumption) | rfl | (simp; done) | fail))))
    (first
      | (go_at_call 99; refine (rgetRoot_c _ _ o0 o1).mono ?_; rintro e w' ⟨rfl, hk6⟩; have HT2 := (HT2.keeps (by ((repeat' (first | (with_reducible exact Keeps.refl _) | (with_reducible assumption) | (with_reducible refine Keeps.drewN ?_ _) | (with_reducible refine Keeps.drew ?_) | (with_reducible refine Keeps.alloc ?_ _) | (with_reducible refine Keeps.setCell ?_ ?_ _) | (with_reducible refine Keeps.trans ?_ (After.keeps _)) | (with_reducible refine Keeps.trans ?_ (by with_reducible assumption)) | go_size)); (first | done | fail)))).keeps hk6; have HK3 := (HK3.drew).trans hk6)
      | (go_at_call 105; refine (rlive_c _ _ _ _ _ _).mono ?_; rintro e w' ⟨rfl, hk7⟩; rw [HV.out]; have HT2 := (HT2.keeps (by ((repeat' (first | (with_reducible exact Keeps.refl _) | (with_reducible assumption) | (with_reducible refine Keeps.drewN ?_ _) | (with_reducible refine Keeps.drew ?_) | (with_reducible refine Keeps.alloc ?_ _) | (with_reducible refine Keeps.setCell ?_ ?_ _) | (with_reducible refine Keeps.trans ?_ (After.keeps _)) | (with_reducible refine Keeps.trans ?_ (by with_reducible assumption)) | go_size)); (first | done | fail)))).keeps hk7; have HK3 := HK3.trans hk7))
  clear FX_
  have FX_ := (HT2).facts; simp only [blockFacts, listFacts, cellsAt, Nat.reduceAdd, and_true, true_and, and_assoc] at FX_
  go_wp2
  go_ret
  generalize hWf : World.setCell _ _ _ = Wf
  have hS : Upd [T] w' Wf := by rw [← hWf]; (repeat (first | (with_reducible exact Upd.refl _ _) | (with_reducible assumption) | (with_reducible refine Upd.setCell ?_ (by first | (left; simp; done) | (right; go_size)) _) | (with_reducible refine Upd.alloc ?_ _) | (with_reducible refine Upd.drewN ?_ _) | (with_reducible refine Upd.drew ?_)))
  exact ⟨rfl, (hu3.trans (Upd.of_keeps HK3)).trans (hS.mono (by simp)), by rw [← hWf]; (apply Has.congr; (focus ((repeat (first | (with_reducible assumption) | (with_reducible exact Has.new _ _ _) | (with_reducible exact Has.new1 _ _ _ _) | (with_reducible exact Has.new2 _ _ _ _ _) | (with_reducible refine Has.newAt ?_; (simp; done)) | (with_reducible apply Has.set) | (with_reducible apply Has.far; (case hn => first | assumption | (simp; done) | (intro e_; simp at e_; omega))) | (with_reducible apply Has.alloc) | (with_reducible apply Has.drewN) | (with_reducible apply Has.drew) | (with_reducible refine Has.keeps ?_ (by with_reducible assumption)))))); (first | rfl | (simp; done))), (M3.keeps HK3).upd hS (by simpa using Ne.symm nTg) (by simpa using Ne.symm nTb)⟩
theorem rend_dead (hv : liveW o gen = false) (hT : Has w T (rendOf W slot gen 0 c point chunk old code false) 129) (hW : Has w W (rwOf p k d s cz b gg Pl Sp E) 85) (M : RMem w gg gb N l cc) (hq : crootI p k d s cz b slot = q) (ho : l[q]? = some o) (o0 : 0 ≤ o) (o1 : o < 18446744073709551616) (c0 : 0 ≤ c) (c1 : c < 1000000) (hcc : cc < 4611686018427387903) :
    Calls Tryz.prog 60 #[.pointer (some ⟨T, 0, none⟩)] w fun e w' => e = .returned (.bool true) ∧ Upd [T, gg, gb] w w' ∧ Has w' T (rendOf W slot gen 1 (c + 1) (c + 1) chunk o 3 true) 129 ∧ RMem w' gg gb N l (cc + 1) := by
  have HQ := Lib.hid hq
  have HO := Lib.hid ho
  have nTg : T ≠ gg := hT.ne M.hg (by decide)
  have nTb : T ≠ gb := hT.ne M.hb (by decide)
  have nTW : T ≠ W := hT.ne hW (by decide)
  have nWT := Ne.symm nTW
  have nWg : W ≠ gg := hW.ne M.hg (by decide)
  have nWb : W ≠ gb := hW.ne M.hb (by decide)
  clear hq ho
  have HV := Lib.hid (show liveB (o / 4294967296) (o / 65536 % 65536) gen = false from hv)
  clear hv
  have HT := hT
  have HW := hW
  have FX_ := (hT).facts; simp only [blockFacts, listFacts, cellsAt, Nat.reduceAdd, and_true, true_and, and_assoc] at FX_
  have FX_ := (hW).facts; simp only [blockFacts, listFacts, cellsAt, Nat.reduceAdd, and_true, true_and, and_assoc, rwOf] at FX_
  go_enter Tryz.func60, Tryz.ntmps60
  go_upto_region 4 with fail
  refine wp_named' (fun W1 hW1 => ?_)
  have HT : Has W1 T (rendOf W slot gen 0 (c + 1) point chunk old code false) 129 := by rw [hW1]; (apply Has.congr; (focus ((repeat (first | (with_reducible assumption) | (with_reducible exact Has.new _ _ _) | (with_reducible exact Has.new1 _ _ _ _) | (with_reducible exact Has.new2 _ _ _ _ _) | (with_reducible refine Has.newAt ?_; (simp; done)) | (with_reducible apply Has.set) | (with_reducible apply Has.far; (case hn => first | assumption | (simp; done) | (intro e_; simp at e_; omega))) | (with_reducible apply Has.alloc) | (with_reducible apply Has.drewN) | (with_reducible apply Has.drew) | (with_reducible refine Has.keeps ?_ (by with_reducible assumption)))))); (first | rfl | (simp; done)))
  have HW : Has W1 W (rwOf p k d s cz b gg Pl Sp E) 85 := by rw [hW1]; (apply Has.congr; (focus ((repeat (first | (with_reducible assumption) | (with_reducible exact Has.new _ _ _) | (with_reducible exact Has.new1 _ _ _ _) | (with_reducible exact Has.new2 _ _ _ _ _) | (with_reducible refine Has.newAt ?_; (simp; done)) | (with_reducible apply Has.set) | (with_reducible apply Has.far; (case hn => first | assumption | (simp; done) | (intro e_; simp at e_; omega))) | (with_reducible apply Has.alloc) | (with_reducible apply Has.drewN) | (with_reducible apply Has.drew) | (with_reducible refine Has.keeps ?_ (by with_reducible assumption)))))); (first | rfl | (simp; done)))
  have hu0 : Upd [T, gg, gb] w W1 := by rw [hW1]; (repeat (first | (with_reducible exact Upd.refl _ _) | (with_reducible assumption) | (with_reducible refine Upd.setCell ?_ (by first | (left; simp; done) | (right; go_size)) _) | (with_reducible refine Upd.alloc ?_ _) | (with_reducible refine Upd.drewN ?_ _) | (with_reducible refine Upd.drew ?_)))
  have M : RMem W1 gg gb N l cc := M.upd (S := [T]) (by rw [hW1]; (repeat (first | (with_reducible exact Upd.refl _ _) | (with_reducible assumption) | (with_reducible refine Upd.setCell ?_ (by first | (left; simp; done) | (right; go_size)) _) | (with_reducible refine Upd.alloc ?_ _) | (with_reducible refine Upd.drewN ?_ _) | (with_reducible refine Upd.drew ?_)))) (by simpa using Ne.symm nTg) (by simpa using Ne.symm nTb)
  clear hW1
  have HKp := Keeps.refl W1
  go_region_held3 (fun y => (((((((y.cell? ⟨T, 0, none⟩ = some (.pointer (some ⟨W, 0, none⟩)) ∧ y.cell? ⟨W, 0, none⟩ = some (.int .i64 p)) ∧ y.cell? ⟨W, 1, none⟩ = some (.int .i64 k)) ∧ y.cell? ⟨W, 2, none⟩ = some (.int .i64 d)) ∧ y.cell? ⟨W, 3, none⟩ = some (.int .i64 s)) ∧ y.cell? ⟨W, 4, none⟩ = some (.int .i64 cz)) ∧ y.cell? ⟨W, 5, none⟩ = some (.int .i64 b)) ∧ y.cell? ⟨T, 1, none⟩ = some (.int .i64 slot))) (((repeat' (with_reducible apply And.intro)) <;> (apply Has.cellv; (focus ((repeat (first | (with_reducible assumption) | (with_reducible exact Has.new _ _ _) | (with_reducible exact Has.new1 _ _ _ _) | (with_reducible exact Has.new2 _ _ _ _ _) | (with_reducible refine Has.newAt ?_; (simp; done)) | (with_reducible apply Has.set) | (with_reducible apply Has.far; (case hn => first | assumption | (simp; done) | (intro e_; simp at e_; omega))) | (with_reducible apply Has.alloc) | (with_reducible apply Has.drewN) | (with_reducible apply Has.drew) | (with_reducible refine Has.keeps ?_ (by with_reducible assumption)))))); (first | (with_reducible assumption) | rfl | (simp; done) | fail))))
    ((go_at_call 101; refine (rcroot_c _ _ _ _ _ _ _ _).mono ?_; rintro e w' ⟨rfl, hk5⟩; rw [HQ.out]; have HT := (HT.keeps (by ((repeat' (first | (with_reducible exact Keeps.refl _) | (with_reducible assumption) | (with_reducible refine Keeps.drewN ?_ _) | (with_reducible refine Keeps.drew ?_) | (with_reducible refine Keeps.alloc ?_ _) | (with_reducible refine Keeps.setCell ?_ ?_ _) | (with_reducible refine Keeps.trans ?_ (After.keeps _)) | (with_reducible refine Keeps.trans ?_ (by with_reducible assumption)) | go_size)); (first | done | fail)))).keeps hk5; have HW := (HW.keeps (by ((repeat' (first | (with_reducible exact Keeps.refl _) | (with_reducible assumption) | (with_reducible refine Keeps.drewN ?_ _) | (with_reducible refine Keeps.drew ?_) | (with_reducible refine Keeps.alloc ?_ _) | (with_reducible refine Keeps.setCell ?_ ?_ _) | (with_reducible refine Keeps.trans ?_ (After.keeps _)) | (with_reducible refine Keeps.trans ?_ (by with_reducible assumption)) | go_size)); (first | done | fail)))).keeps hk5; have HKp := (HKp.drew).trans hk5))
  have M := M.keeps HKp
  have hu0 := hu0.trans (Upd.of_keeps HKp)
  clear FX_
  have FX_ := (HT).facts; simp only [blockFacts, listFacts, cellsAt, Nat.reduceAdd, and_true, true_and, and_assoc] at FX_
  have FT_ := FX_
  clear FX_
  have FX_ := (HW).facts; simp only [blockFacts, listFacts, cellsAt, Nat.reduceAdd, and_true, true_and, and_assoc, rwOf] at FX_
  go_upto_region 7 with (go_at_call 100; refine (rmload M q HO.out hcc).mono ?_; rintro e w' ⟨rfl, hu2, M2⟩; have HT := HT.upd hu2 (by simp only [List.mem_cons, List.not_mem_nil, or_false, not_or]; (repeat' apply And.intro) <;> assumption); have HW := HW.upd hu2 (by simp only [List.mem_cons, List.not_mem_nil, or_false, not_or]; (repeat' apply And.intro) <;> assumption); clear FT_; have FX_ := (HT).facts; simp only [blockFacts, listFacts, cellsAt, Nat.reduceAdd, and_true, true_and, and_assoc] at FX_)
  refine wp_named' (fun W2 hW2 => ?_)
  have hS2 : Upd [T] w' W2 := by rw [hW2]; (repeat (first | (with_reducible exact Upd.refl _ _) | (with_reducible assumption) | (with_reducible refine Upd.setCell ?_ (by first | (left; simp; done) | (right; go_size)) _) | (with_reducible refine Upd.alloc ?_ _) | (with_reducible refine Upd.drewN ?_ _) | (with_reducible refine Upd.drew ?_)))
  have HT2 : Has W2 T (rendOf W slot gen 0 (c + 1) point chunk o code false) 129 := by rw [hW2]; (apply Has.congr; (focus ((repeat (first | (with_reducible assumption) | (with_reducible exact Has.new _ _ _) | (with_reducible exact Has.new1 _ _ _ _) | (with_reducible exact Has.new2 _ _ _ _ _) | (with_reducible refine Has.newAt ?_; (simp; done)) | (with_reducible apply Has.set) | (with_reducible apply Has.far; (case hn => first | assumption | (simp; done) | (intro e_; simp at e_; omega))) | (with_reducible apply Has.alloc) | (with_reducible apply Has.drewN) | (with_reducible apply Has.drew) | (with_reducible refine Has.keeps ?_ (by with_reducible assumption)))))); (first | rfl | (simp; done)))
  have M3 := M2.upd hS2 (by simpa using Ne.symm nTg) (by simpa using Ne.symm nTb)
  have hu3 := (hu0.trans (hu2.mono (by simp))).trans (hS2.mono (by simp))
  clear hW2
  have HK3 := Keeps.refl W2
  go_region_held3 (fun y => y.cell? ⟨T, 7, none⟩ = some (.int .u64 o) ∧ y.cell? ⟨T, 2, none⟩ = some (.int .i64 gen)) (((repeat' (with_reducible apply And.intro)) <;> (apply Has.cellv; (focus ((repeat (first | (with_reducible assumption) | (with_reducible exact Has.new _ _ _) | (with_reducible exact Has.new1 _ _ _ _) | (with_reducible exact Has.new2 _ _ _ _ _) | (with_reducible refine Has.newAt ?_; (simp; done)) | (with_reducible apply Has.set) | (with_reducible apply Has.far; (case hn => first | assumption | (simp; done) | (intro e_; simp at e_; omega))) | (with_reducible apply Has.alloc) | (with_reducible apply Has.drewN) | (with_reducible apply Has.drew) | (with_reducible refine Has.keeps ?_ (by with_reducible assumption)))))); (first | (with_reducible assumption) | rfl | (simp; done) | fail))))
    (first
      | (go_at_call 99; refine (rgetRoot_c _ _ o0 o1).mono ?_; rintro e w' ⟨rfl, hk6⟩; have HT2 := (HT2.keeps (by ((repeat' (first | (with_reducible exact Keeps.refl _) | (with_reducible assumption) | (with_reducible refine Keeps.drewN ?_ _) | (with_reducible refine Keeps.drew ?_) | (with_reducible refine Keeps.alloc ?_ _) | (with_reducible refine Keeps.setCell ?_ ?_ _) | (with_reducible refine Keeps.trans ?_ (After.keeps _)) | (with_reducible refine Keeps.trans ?_ (by with_reducible assumption)) | go_size)); (first | done | fail)))).keeps hk6; have HK3 := (HK3.drew).trans hk6)
      | (go_at_call 105; refine (rlive_c _ _ _ _ _ _).mono ?_; rintro e w' ⟨rfl, hk7⟩; rw [HV.out]; have HT2 := (HT2.keeps (by ((repeat' (first | (with_reducible exact Keeps.refl _) | (with_reducible assumption) | (with_reducible refine Keeps.drewN ?_ _) | (with_reducible refine Keeps.drew ?_) | (with_reducible refine Keeps.alloc ?_ _) | (with_reducible refine Keeps.setCell ?_ ?_ _) | (with_reducible refine Keeps.trans ?_ (After.keeps _)) | (with_reducible refine Keeps.trans ?_ (by with_reducible assumption)) | go_size)); (first | done | fail)))).keeps hk7; have HK3 := HK3.trans hk7))
  clear FX_
  have FX_ := (HT2).facts; simp only [blockFacts, listFacts, cellsAt, Nat.reduceAdd, and_true, true_and, and_assoc] at FX_
  go_wp2
  all_goals go_ret
  all_goals exact ⟨rfl, (hu3.trans (Upd.of_keeps HK3)).trans (by (repeat (first | (with_reducible exact Upd.refl _ _) | (with_reducible assumption) | (with_reducible refine Upd.setCell ?_ (by first | (left; simp; done) | (right; go_size)) _) | (with_reducible refine Upd.alloc ?_ _) | (with_reducible refine Upd.drewN ?_ _) | (with_reducible refine Upd.drew ?_)))), by (apply Has.congr; (focus ((repeat (first | (with_reducible assumption) | (with_reducible exact Has.new _ _ _) | (with_reducible exact Has.new1 _ _ _ _) | (with_reducible exact Has.new2 _ _ _ _ _) | (with_reducible refine Has.newAt ?_; (simp; done)) | (with_reducible apply Has.set) | (with_reducible apply Has.far; (case hn => first | assumption | (simp; done) | (intro e_; simp at e_; omega))) | (with_reducible apply Has.alloc) | (with_reducible apply Has.drewN) | (with_reducible apply Has.drew) | (with_reducible refine Has.keeps ?_ (by with_reducible assumption)))))); (first | rfl | (simp; done))), (M3.keeps HK3).upd (S := [T]) (by (repeat (first | (with_reducible exact Upd.refl _ _) | (with_reducible assumption) | (with_reducible refine Upd.setCell ?_ (by first | (left; simp; done) | (right; go_size)) _) | (with_reducible refine Upd.alloc ?_ _) | (with_reducible refine Upd.drewN ?_ _) | (with_reducible refine Upd.drew ?_)))) (by simpa using Ne.symm nTg) (by simpa using Ne.symm nTb)⟩
theorem rend_cas_eq (hT : Has w T (rendOf W slot gen 1 c point chunk old code false) 129) (hW : Has w W (rwOf p k d s cz b gg Pl Sp E) 85) (M : RMem w gg gb N l cc) (hq : crootI p k d s cz b slot = q) (ho : l[q]? = some old) (o0 : 0 ≤ old) (o1 : old < 18446744073709551616) (c0 : 0 ≤ c) (c1 : c < 1000000) (hcc : cc < 4611686018427387903) :
    Calls Tryz.prog 60 #[.pointer (some ⟨T, 0, none⟩)] w fun e w' => e = .returned (.bool true) ∧ Upd [T, gg, gb] w w' ∧ Has w' T (rendOf W slot gen 0 (c + 1) (c + 1) (chunkI (old / 65536 % 65536)) old code true) 129 ∧ RMem w' gg gb N (l.set q (rootI (old / 4294967296) 0 0 0)) (cc + 1) := by
  have HQ := Lib.hid hq
  have HO := Lib.hid ho
  have nTg : T ≠ gg := hT.ne M.hg (by decide)
  have nTb : T ≠ gb := hT.ne M.hb (by decide)
  have nTW : T ≠ W := hT.ne hW (by decide)
  have nWT := Ne.symm nTW
  have nWg : W ≠ gg := hW.ne M.hg (by decide)
  have nWb : W ≠ gb := hW.ne M.hb (by decide)
  clear hq ho
  have HT := hT
  have HW := hW
  have FX_ := (hT).facts; simp only [blockFacts, listFacts, cellsAt, Nat.reduceAdd, and_true, true_and, and_assoc] at FX_
  have FX_ := (hW).facts; simp only [blockFacts, listFacts, cellsAt, Nat.reduceAdd, and_true, true_and, and_assoc, rwOf] at FX_
  go_enter Tryz.func60, Tryz.ntmps60
  go_upto_region 4 with fail
  refine wp_named' (fun W1 hW1 => ?_)
  have HT : Has W1 T (rendOf W slot gen 1 (c + 1) point chunk old code false) 129 := by rw [hW1]; (apply Has.congr; (focus ((repeat (first | (with_reducible assumption) | (with_reducible exact Has.new _ _ _) | (with_reducible exact Has.new1 _ _ _ _) | (with_reducible exact Has.new2 _ _ _ _ _) | (with_reducible refine Has.newAt ?_; (simp; done)) | (with_reducible apply Has.set) | (with_reducible apply Has.far; (case hn => first | assumption | (simp; done) | (intro e_; simp at e_; omega))) | (with_reducible apply Has.alloc) | (with_reducible apply Has.drewN) | (with_reducible apply Has.drew) | (with_reducible refine Has.keeps ?_ (by with_reducible assumption)))))); (first | rfl | (simp; done)))
  have HW : Has W1 W (rwOf p k d s cz b gg Pl Sp E) 85 := by rw [hW1]; (apply Has.congr; (focus ((repeat (first | (with_reducible assumption) | (with_reducible exact Has.new _ _ _) | (with_reducible exact Has.new1 _ _ _ _) | (with_reducible exact Has.new2 _ _ _ _ _) | (with_reducible refine Has.newAt ?_; (simp; done)) | (with_reducible apply Has.set) | (with_reducible apply Has.far; (case hn => first | assumption | (simp; done) | (intro e_; simp at e_; omega))) | (with_reducible apply Has.alloc) | (with_reducible apply Has.drewN) | (with_reducible apply Has.drew) | (with_reducible refine Has.keeps ?_ (by with_reducible assumption)))))); (first | rfl | (simp; done)))
  have hu0 : Upd [T, gg, gb] w W1 := by rw [hW1]; (repeat (first | (with_reducible exact Upd.refl _ _) | (with_reducible assumption) | (with_reducible refine Upd.setCell ?_ (by first | (left; simp; done) | (right; go_size)) _) | (with_reducible refine Upd.alloc ?_ _) | (with_reducible refine Upd.drewN ?_ _) | (with_reducible refine Upd.drew ?_)))
  have M : RMem W1 gg gb N l cc := M.upd (S := [T]) (by rw [hW1]; (repeat (first | (with_reducible exact Upd.refl _ _) | (with_reducible assumption) | (with_reducible refine Upd.setCell ?_ (by first | (left; simp; done) | (right; go_size)) _) | (with_reducible refine Upd.alloc ?_ _) | (with_reducible refine Upd.drewN ?_ _) | (with_reducible refine Upd.drew ?_)))) (by simpa using Ne.symm nTg) (by simpa using Ne.symm nTb)
  clear hW1
  have HKp := Keeps.refl W1
  go_region_held3 (fun y => (((((((y.cell? ⟨T, 0, none⟩ = some (.pointer (some ⟨W, 0, none⟩)) ∧ y.cell? ⟨W, 0, none⟩ = some (.int .i64 p)) ∧ y.cell? ⟨W, 1, none⟩ = some (.int .i64 k)) ∧ y.cell? ⟨W, 2, none⟩ = some (.int .i64 d)) ∧ y.cell? ⟨W, 3, none⟩ = some (.int .i64 s)) ∧ y.cell? ⟨W, 4, none⟩ = some (.int .i64 cz)) ∧ y.cell? ⟨W, 5, none⟩ = some (.int .i64 b)) ∧ y.cell? ⟨T, 1, none⟩ = some (.int .i64 slot))) (((repeat' (with_reducible apply And.intro)) <;> (apply Has.cellv; (focus ((repeat (first | (with_reducible assumption) | (with_reducible exact Has.new _ _ _) | (with_reducible exact Has.new1 _ _ _ _) | (with_reducible exact Has.new2 _ _ _ _ _) | (with_reducible refine Has.newAt ?_; (simp; done)) | (with_reducible apply Has.set) | (with_reducible apply Has.far; (case hn => first | assumption | (simp; done) | (intro e_; simp at e_; omega))) | (with_reducible apply Has.alloc) | (with_reducible apply Has.drewN) | (with_reducible apply Has.drew) | (with_reducible refine Has.keeps ?_ (by with_reducible assumption)))))); (first | (with_reducible assumption) | rfl | (simp; done) | fail))))
    ((go_at_call 101; refine (rcroot_c _ _ _ _ _ _ _ _).mono ?_; rintro e w' ⟨rfl, hk5⟩; rw [HQ.out]; have HT := (HT.keeps (by ((repeat' (first | (with_reducible exact Keeps.refl _) | (with_reducible assumption) | (with_reducible refine Keeps.drewN ?_ _) | (with_reducible refine Keeps.drew ?_) | (with_reducible refine Keeps.alloc ?_ _) | (with_reducible refine Keeps.setCell ?_ ?_ _) | (with_reducible refine Keeps.trans ?_ (After.keeps _)) | (with_reducible refine Keeps.trans ?_ (by with_reducible assumption)) | go_size)); (first | done | fail)))).keeps hk5; have HW := (HW.keeps (by ((repeat' (first | (with_reducible exact Keeps.refl _) | (with_reducible assumption) | (with_reducible refine Keeps.drewN ?_ _) | (with_reducible refine Keeps.drew ?_) | (with_reducible refine Keeps.alloc ?_ _) | (with_reducible refine Keeps.setCell ?_ ?_ _) | (with_reducible refine Keeps.trans ?_ (After.keeps _)) | (with_reducible refine Keeps.trans ?_ (by with_reducible assumption)) | go_size)); (first | done | fail)))).keeps hk5; have HKp := (HKp.drew).trans hk5))
  have M := M.keeps HKp
  have hu0 := hu0.trans (Upd.of_keeps HKp)
  have hws : w.heap.size ≤ w'.heap.size := hu0.size
  clear FX_
  have FX_ := (HT).facts; simp only [blockFacts, listFacts, cellsAt, Nat.reduceAdd, and_true, true_and, and_assoc] at FX_
  have FT_ := FX_
  clear FX_
  have FX_ := (HW).facts; simp only [blockFacts, listFacts, cellsAt, Nat.reduceAdd, and_true, true_and, and_assoc, rwOf] at FX_
  go_upto_region 12 with (go_at_call 99; refine (rgetRoot_c _ _ o0 o1).mono ?_; rintro e w' ⟨rfl, hk6⟩)
  refine wp_named' (fun W2 hW2 => ?_)
  have HB : Has W2 w'.heap.size (rootA old) 125 := by rw [hW2]; exact Has.new w' _ _
  have hk7 : Keeps w' W2 := by rw [hW2]; ((repeat' (first | (with_reducible exact Keeps.refl _) | (with_reducible assumption) | (with_reducible refine Keeps.drewN ?_ _) | (with_reducible refine Keeps.drew ?_) | (with_reducible refine Keeps.alloc ?_ _) | (with_reducible refine Keeps.setCell ?_ ?_ _) | (with_reducible refine Keeps.trans ?_ (After.keeps _)) | (with_reducible refine Keeps.trans ?_ (by with_reducible assumption)) | go_size)); (first | done | fail))
  have HT := (HT.keeps hk6).keeps hk7
  have HW := (HW.keeps hk6).keeps hk7
  have M := (M.keeps hk6).keeps hk7
  have hu0 := (hu0.trans (Upd.of_keeps hk6)).trans (Upd.of_keeps hk7)
  have hrb : w.heap.size ≤ w'.heap.size := Nat.le_trans hws hk6.size
  clear hW2 hk7 FT_ FX_
  generalize w'.heap.size = r at *
  have nrT : T ≠ r := HT.ne HB (by decide)
  have nrT2 := Ne.symm nrT
  have nrg : r ≠ gg := HB.ne M.hg (by decide)
  have nrb : r ≠ gb := HB.ne M.hb (by decide)
  have FX_ := (HB).facts; simp only [blockFacts, listFacts, cellsAt, Nat.reduceAdd, and_true, true_and, and_assoc] at FX_
  go_upto_region 13 with (go_at_call 103; refine (rputRoot_c _ _ _ _ _).mono ?_; rintro e w' ⟨rfl, hk8⟩)
  have HT := HT.keeps hk8
  have HW := HW.keeps hk8
  have HB := HB.keeps hk8
  have M := M.keeps hk8
  have hu0 := hu0.trans (Upd.of_keeps hk8)
  have hm5 : old / 65536 % 65536 ≤ 9223372036854775807 := by omega
  clear FX_
  go_region_held3 (fun y => ((y.cell? ⟨T, 0, none⟩ = some (.pointer (some ⟨W, 0, none⟩)) ∧ y.cell? ⟨W, 6, none⟩ = some (.pointer (some ⟨gg, 0, none⟩))) ∧ y.cell? ⟨T, 7, none⟩ = some (.int .u64 old))) (((repeat' (with_reducible apply And.intro)) <;> (apply Has.cellv; (focus ((repeat (first | (with_reducible assumption) | (with_reducible exact Has.new _ _ _) | (with_reducible exact Has.new1 _ _ _ _) | (with_reducible exact Has.new2 _ _ _ _ _) | (with_reducible refine Has.newAt ?_; (simp; done)) | (with_reducible apply Has.set) | (with_reducible apply Has.far; (case hn => first | assumption | (simp; done) | (intro e_; simp at e_; omega))) | (with_reducible apply Has.alloc) | (with_reducible apply Has.drewN) | (with_reducible apply Has.drew) | (with_reducible refine Has.keeps ?_ (by with_reducible assumption)))))); (first | (with_reducible assumption) | rfl | (simp; done) | fail))))
    ((go_at_call 106; refine (rmcas_eq (M.keeps (by ((repeat' (first | (with_reducible exact Keeps.refl _) | (with_reducible assumption) | (with_reducible refine Keeps.drewN ?_ _) | (with_reducible refine Keeps.drew ?_) | (with_reducible refine Keeps.alloc ?_ _) | (with_reducible refine Keeps.setCell ?_ ?_ _) | (with_reducible refine Keeps.trans ?_ (After.keeps _)) | (with_reducible refine Keeps.trans ?_ (by with_reducible assumption)) | go_size)); (first | done | fail)))) q _ HO.out hcc).mono ?_; rintro e w' ⟨rfl, hu2, M2⟩; have HT := HT.drew.upd hu2 (by simp only [List.mem_cons, List.not_mem_nil, or_false, not_or]; (repeat' apply And.intro) <;> assumption); have HW := HW.drew.upd hu2 (by simp only [List.mem_cons, List.not_mem_nil, or_false, not_or]; (repeat' apply And.intro) <;> assumption); have HB := HB.drew.upd hu2 (by simp only [List.mem_cons, List.not_mem_nil, or_false, not_or]; (repeat' apply And.intro) <;> assumption)))
  have hu0 := (hu0.trans (Upd.of_keeps (by ((repeat' (first | (with_reducible exact Keeps.refl _) | (with_reducible assumption) | (with_reducible refine Keeps.drewN ?_ _) | (with_reducible refine Keeps.drew ?_) | (with_reducible refine Keeps.alloc ?_ _) | (with_reducible refine Keeps.setCell ?_ ?_ _) | (with_reducible refine Keeps.trans ?_ (After.keeps _)) | (with_reducible refine Keeps.trans ?_ (by with_reducible assumption)) | go_size)); (first | done | fail))))).trans (hu2.mono (by simp))
  have HKq := Keeps.refl w'
  go_wp2
  go_region_held3 (fun y => ((((y.cell? ⟨r, 0, none⟩ = some (.int .i64 (old / 4294967296)) ∧ y.cell? ⟨r, 1, none⟩ = some (.int .i64 (old / 65536 % 65536))) ∧ y.cell? ⟨r, 2, none⟩ = some (.int .i64 (old / 4096 % 16))) ∧ y.cell? ⟨r, 3, none⟩ = some (.int .i64 (old % 4096))) ∧ y.cell? ⟨T, 4, none⟩ = some (.int .i64 (c + 1)))) (((repeat' (with_reducible apply And.intro)) <;> (apply Has.cellv; (focus ((repeat (first | (with_reducible assumption) | (with_reducible exact Has.new _ _ _) | (with_reducible exact Has.new1 _ _ _ _) | (with_reducible exact Has.new2 _ _ _ _ _) | (with_reducible refine Has.newAt ?_; (simp; done)) | (with_reducible apply Has.set) | (with_reducible apply Has.far; (case hn => first | assumption | (simp; done) | (intro e_; simp at e_; omega))) | (with_reducible apply Has.alloc) | (with_reducible apply Has.drewN) | (with_reducible apply Has.drew) | (with_reducible refine Has.keeps ?_ (by with_reducible assumption)))))); (first | (with_reducible assumption) | rfl | (simp; done) | fail))))
    ((go_at_call 107; refine (rchunk_c _ _ _ _ _ hm5).mono ?_; rintro e w' ⟨rfl, hk9⟩; have HT := (HT.keeps (by ((repeat' (first | (with_reducible exact Keeps.refl _) | (with_reducible assumption) | (with_reducible refine Keeps.drewN ?_ _) | (with_reducible refine Keeps.drew ?_) | (with_reducible refine Keeps.alloc ?_ _) | (with_reducible refine Keeps.setCell ?_ ?_ _) | (with_reducible refine Keeps.trans ?_ (After.keeps _)) | (with_reducible refine Keeps.trans ?_ (by with_reducible assumption)) | go_size)); (first | done | fail)))).keeps hk9; have HB := (HB.keeps (by ((repeat' (first | (with_reducible exact Keeps.refl _) | (with_reducible assumption) | (with_reducible refine Keeps.drewN ?_ _) | (with_reducible refine Keeps.drew ?_) | (with_reducible refine Keeps.alloc ?_ _) | (with_reducible refine Keeps.setCell ?_ ?_ _) | (with_reducible refine Keeps.trans ?_ (After.keeps _)) | (with_reducible refine Keeps.trans ?_ (by with_reducible assumption)) | go_size)); (first | done | fail)))).keeps hk9; have HKq := (HKq.drew).trans hk9; have FX_ := (HT).facts; simp only [blockFacts, listFacts, cellsAt, Nat.reduceAdd, and_true, true_and, and_assoc] at FX_))
  go_wp2
  go_ret
  exact ⟨rfl, (hu0.trans (Upd.of_keeps HKq)).trans (by (repeat (first | (with_reducible exact Upd.refl _ _) | (with_reducible assumption) | (with_reducible refine Upd.setCell ?_ (by first | (left; simp; done) | (right; go_size)) _) | (with_reducible refine Upd.alloc ?_ _) | (with_reducible refine Upd.drewN ?_ _) | (with_reducible refine Upd.drew ?_)))), by (apply Has.congr; (focus ((repeat (first | (with_reducible assumption) | (with_reducible exact Has.new _ _ _) | (with_reducible exact Has.new1 _ _ _ _) | (with_reducible exact Has.new2 _ _ _ _ _) | (with_reducible refine Has.newAt ?_; (simp; done)) | (with_reducible apply Has.set) | (with_reducible apply Has.far; (case hn => first | assumption | (simp; done) | (intro e_; simp at e_; omega))) | (with_reducible apply Has.alloc) | (with_reducible apply Has.drewN) | (with_reducible apply Has.drew) | (with_reducible refine Has.keeps ?_ (by with_reducible assumption)))))); (first | rfl | (simp; done))), (M2.keeps HKq).upd (S := [T]) (by (repeat (first | (with_reducible exact Upd.refl _ _) | (with_reducible assumption) | (with_reducible refine Upd.setCell ?_ (by first | (left; simp; done) | (right; go_size)) _) | (with_reducible refine Upd.alloc ?_ _) | (with_reducible refine Upd.drewN ?_ _) | (with_reducible refine Upd.drew ?_)))) (by simpa using Ne.symm nTg) (by simpa using Ne.symm nTb)⟩
theorem rend_cas_ne (hne : (o != old) = true) (hT : Has w T (rendOf W slot gen 1 c point chunk old code false) 129) (hW : Has w W (rwOf p k d s cz b gg Pl Sp E) 85) (M : RMem w gg gb N l cc) (hq : crootI p k d s cz b slot = q) (ho : l[q]? = some o) (o0 : 0 ≤ old) (o1 : old < 18446744073709551616) (c0 : 0 ≤ c) (c1 : c < 1000000) (hcc : cc < 4611686018427387903) :
    Calls Tryz.prog 60 #[.pointer (some ⟨T, 0, none⟩)] w fun e w' => e = .returned (.bool true) ∧ Upd [T, gg, gb] w w' ∧ Has w' T (rendOf W slot gen 0 (c + 1) point chunk old code false) 129 ∧ RMem w' gg gb N l (cc + 1) := by
  have HQ := Lib.hid hq
  have HO := Lib.hid ho
  have nTg : T ≠ gg := hT.ne M.hg (by decide)
  have nTb : T ≠ gb := hT.ne M.hb (by decide)
  have nTW : T ≠ W := hT.ne hW (by decide)
  have nWT := Ne.symm nTW
  have nWg : W ≠ gg := hW.ne M.hg (by decide)
  have nWb : W ≠ gb := hW.ne M.hb (by decide)
  clear hq ho
  have HNE := Lib.hid hne
  clear hne
  have HT := hT
  have HW := hW
  have FX_ := (hT).facts; simp only [blockFacts, listFacts, cellsAt, Nat.reduceAdd, and_true, true_and, and_assoc] at FX_
  have FX_ := (hW).facts; simp only [blockFacts, listFacts, cellsAt, Nat.reduceAdd, and_true, true_and, and_assoc, rwOf] at FX_
  go_enter Tryz.func60, Tryz.ntmps60
  go_upto_region 4 with fail
  refine wp_named' (fun W1 hW1 => ?_)
  have HT : Has W1 T (rendOf W slot gen 1 (c + 1) point chunk old code false) 129 := by rw [hW1]; (apply Has.congr; (focus ((repeat (first | (with_reducible assumption) | (with_reducible exact Has.new _ _ _) | (with_reducible exact Has.new1 _ _ _ _) | (with_reducible exact Has.new2 _ _ _ _ _) | (with_reducible refine Has.newAt ?_; (simp; done)) | (with_reducible apply Has.set) | (with_reducible apply Has.far; (case hn => first | assumption | (simp; done) | (intro e_; simp at e_; omega))) | (with_reducible apply Has.alloc) | (with_reducible apply Has.drewN) | (with_reducible apply Has.drew) | (with_reducible refine Has.keeps ?_ (by with_reducible assumption)))))); (first | rfl | (simp; done)))
  have HW : Has W1 W (rwOf p k d s cz b gg Pl Sp E) 85 := by rw [hW1]; (apply Has.congr; (focus ((repeat (first | (with_reducible assumption) | (with_reducible exact Has.new _ _ _) | (with_reducible exact Has.new1 _ _ _ _) | (with_reducible exact Has.new2 _ _ _ _ _) | (with_reducible refine Has.newAt ?_; (simp; done)) | (with_reducible apply Has.set) | (with_reducible apply Has.far; (case hn => first | assumption | (simp; done) | (intro e_; simp at e_; omega))) | (with_reducible apply Has.alloc) | (with_reducible apply Has.drewN) | (with_reducible apply Has.drew) | (with_reducible refine Has.keeps ?_ (by with_reducible assumption)))))); (first | rfl | (simp; done)))
  have hu0 : Upd [T, gg, gb] w W1 := by rw [hW1]; (repeat (first | (with_reducible exact Upd.refl _ _) | (with_reducible assumption) | (with_reducible refine Upd.setCell ?_ (by first | (left; simp; done) | (right; go_size)) _) | (with_reducible refine Upd.alloc ?_ _) | (with_reducible refine Upd.drewN ?_ _) | (with_reducible refine Upd.drew ?_)))
  have M : RMem W1 gg gb N l cc := M.upd (S := [T]) (by rw [hW1]; (repeat (first | (with_reducible exact Upd.refl _ _) | (with_reducible assumption) | (with_reducible refine Upd.setCell ?_ (by first | (left; simp; done) | (right; go_size)) _) | (with_reducible refine Upd.alloc ?_ _) | (with_reducible refine Upd.drewN ?_ _) | (with_reducible refine Upd.drew ?_)))) (by simpa using Ne.symm nTg) (by simpa using Ne.symm nTb)
  clear hW1
  have HKp := Keeps.refl W1
  go_region_held3 (fun y => (((((((y.cell? ⟨T, 0, none⟩ = some (.pointer (some ⟨W, 0, none⟩)) ∧ y.cell? ⟨W, 0, none⟩ = some (.int .i64 p)) ∧ y.cell? ⟨W, 1, none⟩ = some (.int .i64 k)) ∧ y.cell? ⟨W, 2, none⟩ = some (.int .i64 d)) ∧ y.cell? ⟨W, 3, none⟩ = some (.int .i64 s)) ∧ y.cell? ⟨W, 4, none⟩ = some (.int .i64 cz)) ∧ y.cell? ⟨W, 5, none⟩ = some (.int .i64 b)) ∧ y.cell? ⟨T, 1, none⟩ = some (.int .i64 slot))) (((repeat' (with_reducible apply And.intro)) <;> (apply Has.cellv; (focus ((repeat (first | (with_reducible assumption) | (with_reducible exact Has.new _ _ _) | (with_reducible exact Has.new1 _ _ _ _) | (with_reducible exact Has.new2 _ _ _ _ _) | (with_reducible refine Has.newAt ?_; (simp; done)) | (with_reducible apply Has.set) | (with_reducible apply Has.far; (case hn => first | assumption | (simp; done) | (intro e_; simp at e_; omega))) | (with_reducible apply Has.alloc) | (with_reducible apply Has.drewN) | (with_reducible apply Has.drew) | (with_reducible refine Has.keeps ?_ (by with_reducible assumption)))))); (first | (with_reducible assumption) | rfl | (simp; done) | fail))))
    ((go_at_call 101; refine (rcroot_c _ _ _ _ _ _ _ _).mono ?_; rintro e w' ⟨rfl, hk5⟩; rw [HQ.out]; have HT := (HT.keeps (by ((repeat' (first | (with_reducible exact Keeps.refl _) | (with_reducible assumption) | (with_reducible refine Keeps.drewN ?_ _) | (with_reducible refine Keeps.drew ?_) | (with_reducible refine Keeps.alloc ?_ _) | (with_reducible refine Keeps.setCell ?_ ?_ _) | (with_reducible refine Keeps.trans ?_ (After.keeps _)) | (with_reducible refine Keeps.trans ?_ (by with_reducible assumption)) | go_size)); (first | done | fail)))).keeps hk5; have HW := (HW.keeps (by ((repeat' (first | (with_reducible exact Keeps.refl _) | (with_reducible assumption) | (with_reducible refine Keeps.drewN ?_ _) | (with_reducible refine Keeps.drew ?_) | (with_reducible refine Keeps.alloc ?_ _) | (with_reducible refine Keeps.setCell ?_ ?_ _) | (with_reducible refine Keeps.trans ?_ (After.keeps _)) | (with_reducible refine Keeps.trans ?_ (by with_reducible assumption)) | go_size)); (first | done | fail)))).keeps hk5; have HKp := (HKp.drew).trans hk5))
  have M := M.keeps HKp
  have hu0 := hu0.trans (Upd.of_keeps HKp)
  have hws : w.heap.size ≤ w'.heap.size := hu0.size
  clear FX_
  have FX_ := (HT).facts; simp only [blockFacts, listFacts, cellsAt, Nat.reduceAdd, and_true, true_and, and_assoc] at FX_
  have FT_ := FX_
  clear FX_
  have FX_ := (HW).facts; simp only [blockFacts, listFacts, cellsAt, Nat.reduceAdd, and_true, true_and, and_assoc, rwOf] at FX_
  go_upto_region 12 with (go_at_call 99; refine (rgetRoot_c _ _ o0 o1).mono ?_; rintro e w' ⟨rfl, hk6⟩)
  refine wp_named' (fun W2 hW2 => ?_)
  have HB : Has W2 w'.heap.size (rootA old) 125 := by rw [hW2]; exact Has.new w' _ _
  have hk7 : Keeps w' W2 := by rw [hW2]; ((repeat' (first | (with_reducible exact Keeps.refl _) | (with_reducible assumption) | (with_reducible refine Keeps.drewN ?_ _) | (with_reducible refine Keeps.drew ?_) | (with_reducible refine Keeps.alloc ?_ _) | (with_reducible refine Keeps.setCell ?_ ?_ _) | (with_reducible refine Keeps.trans ?_ (After.keeps _)) | (with_reducible refine Keeps.trans ?_ (by with_reducible assumption)) | go_size)); (first | done | fail))
  have HT := (HT.keeps hk6).keeps hk7
  have HW := (HW.keeps hk6).keeps hk7
  have M := (M.keeps hk6).keeps hk7
  have hu0 := (hu0.trans (Upd.of_keeps hk6)).trans (Upd.of_keeps hk7)
  have hrb : w.heap.size ≤ w'.heap.size := Nat.le_trans hws hk6.size
  clear hW2 hk7 FT_ FX_
  generalize w'.heap.size = r at *
  have nrT : T ≠ r := HT.ne HB (by decide)
  have nrT2 := Ne.symm nrT
  have nrg : r ≠ gg := HB.ne M.hg (by decide)
  have nrb : r ≠ gb := HB.ne M.hb (by decide)
  have FX_ := (HB).facts; simp only [blockFacts, listFacts, cellsAt, Nat.reduceAdd, and_true, true_and, and_assoc] at FX_
  go_upto_region 13 with (go_at_call 103; refine (rputRoot_c _ _ _ _ _).mono ?_; rintro e w' ⟨rfl, hk8⟩)
  have HT := HT.keeps hk8
  have HW := HW.keeps hk8
  have HB := HB.keeps hk8
  have M := M.keeps hk8
  have hu0 := hu0.trans (Upd.of_keeps hk8)
  have hm5 : old / 65536 % 65536 ≤ 9223372036854775807 := by omega
  clear FX_
  go_region_held3 (fun y => ((y.cell? ⟨T, 0, none⟩ = some (.pointer (some ⟨W, 0, none⟩)) ∧ y.cell? ⟨W, 6, none⟩ = some (.pointer (some ⟨gg, 0, none⟩))) ∧ y.cell? ⟨T, 7, none⟩ = some (.int .u64 old))) (((repeat' (with_reducible apply And.intro)) <;> (apply Has.cellv; (focus ((repeat (first | (with_reducible assumption) | (with_reducible exact Has.new _ _ _) | (with_reducible exact Has.new1 _ _ _ _) | (with_reducible exact Has.new2 _ _ _ _ _) | (with_reducible refine Has.newAt ?_; (simp; done)) | (with_reducible apply Has.set) | (with_reducible apply Has.far; (case hn => first | assumption | (simp; done) | (intro e_; simp at e_; omega))) | (with_reducible apply Has.alloc) | (with_reducible apply Has.drewN) | (with_reducible apply Has.drew) | (with_reducible refine Has.keeps ?_ (by with_reducible assumption)))))); (first | (with_reducible assumption) | rfl | (simp; done) | fail))))
    ((go_at_call 106; refine (rmcas_ne (M.keeps (by ((repeat' (first | (with_reducible exact Keeps.refl _) | (with_reducible assumption) | (with_reducible refine Keeps.drewN ?_ _) | (with_reducible refine Keeps.drew ?_) | (with_reducible refine Keeps.alloc ?_ _) | (with_reducible refine Keeps.setCell ?_ ?_ _) | (with_reducible refine Keeps.trans ?_ (After.keeps _)) | (with_reducible refine Keeps.trans ?_ (by with_reducible assumption)) | go_size)); (first | done | fail)))) q _ _ HO.out hcc HNE.out).mono ?_; rintro e w' ⟨rfl, hu2, M2⟩; have HT := HT.drew.upd hu2 (by simp only [List.mem_cons, List.not_mem_nil, or_false, not_or]; (repeat' apply And.intro) <;> assumption); have HW := HW.drew.upd hu2 (by simp only [List.mem_cons, List.not_mem_nil, or_false, not_or]; (repeat' apply And.intro) <;> assumption); have FX_ := (HT).facts; simp only [blockFacts, listFacts, cellsAt, Nat.reduceAdd, and_true, true_and, and_assoc] at FX_))
  have hu0 := (hu0.trans (Upd.of_keeps (by ((repeat' (first | (with_reducible exact Keeps.refl _) | (with_reducible assumption) | (with_reducible refine Keeps.drewN ?_ _) | (with_reducible refine Keeps.drew ?_) | (with_reducible refine Keeps.alloc ?_ _) | (with_reducible refine Keeps.setCell ?_ ?_ _) | (with_reducible refine Keeps.trans ?_ (After.keeps _)) | (with_reducible refine Keeps.trans ?_ (by with_reducible assumption)) | go_size)); (first | done | fail))))).trans (hu2.mono (by simp))
  go_wp2
  go_ret
  exact ⟨rfl, hu0.trans (by (repeat (first | (with_reducible exact Upd.refl _ _) | (with_reducible assumption) | (with_reducible refine Upd.setCell ?_ (by first | (left; simp; done) | (right; go_size)) _) | (with_reducible refine Upd.alloc ?_ _) | (with_reducible refine Upd.drewN ?_ _) | (with_reducible refine Upd.drew ?_)))), by (apply Has.congr; (focus ((repeat (first | (with_reducible assumption) | (with_reducible exact Has.new _ _ _) | (with_reducible exact Has.new1 _ _ _ _) | (with_reducible exact Has.new2 _ _ _ _ _) | (with_reducible refine Has.newAt ?_; (simp; done)) | (with_reducible apply Has.set) | (with_reducible apply Has.far; (case hn => first | assumption | (simp; done) | (intro e_; simp at e_; omega))) | (with_reducible apply Has.alloc) | (with_reducible apply Has.drewN) | (with_reducible apply Has.drew) | (with_reducible refine Has.keeps ?_ (by with_reducible assumption)))))); (first | rfl | (simp; done))), M2.upd (S := [T]) (by (repeat (first | (with_reducible exact Upd.refl _ _) | (with_reducible assumption) | (with_reducible refine Upd.setCell ?_ (by first | (left; simp; done) | (right; go_size)) _) | (with_reducible refine Upd.alloc ?_ _) | (with_reducible refine Upd.drewN ?_ _) | (with_reducible refine Upd.drew ?_)))) (by simpa using Ne.symm nTg) (by simpa using Ne.symm nTb)⟩
end
end Go.Proofs.YtaecapjicphdkaaGreat
