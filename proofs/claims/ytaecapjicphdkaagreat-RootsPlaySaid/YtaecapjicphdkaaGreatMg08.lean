/- The machine Pop: its other accesses, walked. -/
import Derived.Test.YtaecapjicphdkaaGreatMg07
import Derived.OwnWalk
namespace Go.Proofs.YtaecapjicphdkaaGreat
set_option linter.unusedVariables false
set_option linter.unusedSimpArgs false
open Go Go.RowKit
set_option maxRecDepth 100000
attribute [local go_sem ↓] Go.wp_at_zero Go.wp_at_succ
set_option maxHeartbeats 1000000

section
variable {w : World} {S m b N : Nat} {hd : Nat} {lk n : Int} {l : List Int} {cc : Int} {x : Acc} {g lb k cap i q B : Nat} {cur : Array Value} {c was a1 a2 o most under t : Int}
theorem popLink_bare (hP : Has w g (popOf .nilFunc c S most under was (.slice (some ⟨lb, 0, none⟩) (k + 1) cap)) 177) (hS : Has w S (stackOf m hd lk n) 143) (M : Mem w m b N l cc x)
    (hL : Has w lb cur 3) (hc1 : cur[k]? = some (.int .i64 a1)) (hk1 : k ≤ 1000000) (hq : lk + a1 = q) (hq1 : q ≤ 9000000) (ho : l[q]? = some o) (o0 : 0 ≤ o) (o1 : o < 18446744073709551616) (n0 : 0 ≤ n) (n1 : n ≤ 9000000) (ht : belowI n o = t) (t0 : -1 ≤ t) (t1 : t ≤ 9000000) (hcc : cc < 4611686018427387903) (t00 : t < 0) :
    Calls Tryz.prog 134 #[.pointer (some ⟨g, 0, none⟩)] w fun e w' => e = .returned (.tuple #[]) ∧ Upd [g, m, b] w w' ∧
      Has w' g (popOf (bound 142 g) c S most t was (.slice (some ⟨lb, 0, none⟩) (k + 1) cap)) 177 ∧ Mem w' m b N l (cc + 1) ⟨1, q, o, o, true⟩ := by
  have ne_ := Has.ne hP hS (by decide); have ne_' := Ne.symm ne_
  have ne_ := Has.ne hP M.hg (by decide); have ne_' := Ne.symm ne_
  have ne_ := Has.ne hP M.hb (by decide); have ne_' := Ne.symm ne_
  have ne_ := Has.ne hP hL (by decide); have ne_' := Ne.symm ne_
  have ne_ := Has.ne hS M.hg (by decide); have ne_' := Ne.symm ne_
  have ne_ := Has.ne hS M.hb (by decide); have ne_' := Ne.symm ne_
  have ne_ := Has.ne hL M.hg (by decide); have ne_' := Ne.symm ne_
  have ne_ := Has.ne hL M.hb (by decide); have ne_' := Ne.symm ne_
  have ne_ := Has.ne hL hS (by decide); have ne_' := Ne.symm ne_
  have HO := Lib.hid ho
  have HQ := Lib.hid hq
  have HT := Lib.hid ht
  have p0 : 0 ≤ lk + a1 := by omega
  have p1 : lk + a1 ≤ 9000000 := by omega
  have pw := wrapI_ok (lk + a1) (by omega) (by omega)
  have pw4 := wrapI_ok ((k : Int) + 1 - 1) (by omega) (by omega)
  have pj : (k : Int) + 1 - 1 = k := by omega
  have pw5 := wrapI_ok (k : Int) (by omega) (by omega)
  have pi0 : (0 : Int) ≤ (k : Int) := by omega
  have pi1 : (k : Int) < (k : Int) + 1 := by omega
  clear ho hq ht
  have FX_ := (hP).facts; simp only [blockFacts, listFacts, cellsAt, Nat.reduceAdd, and_true, true_and, and_assoc] at FX_
  have FX_ := (hS).facts; simp only [blockFacts, listFacts, cellsAt, Nat.reduceAdd, and_true, true_and, and_assoc, stackOf] at FX_
  have HP := hP
  have HS := hS
  have HL := hL
  go_enter Tryz.func134, Tryz.ntmps134
  go_wp2
  go_region_held3 (fun y => (((y.cell? ⟨g, 5, none⟩ = some (.pointer (some ⟨S, 0, none⟩)) ∧ y.cell? ⟨S, 0, none⟩ = some (.pointer (some ⟨m, 0, none⟩))) ∧ y.cell? ⟨S, 2, none⟩ = some (.int .i64 lk)) ∧ y.cell? ⟨g, 9, none⟩ = some (.slice (some ⟨lb, 0, none⟩) (k + 1) cap)) ∧ y.cell? ⟨lb, k, none⟩ = some (.int .i64 a1)) (((repeat' (with_reducible apply And.intro)) <;> (apply Has.cellv; (focus ((repeat (first | (with_reducible assumption) | (with_reducible exact Has.new _ _ _) | (with_reducible exact Has.new1 _ _ _ _) | (with_reducible exact Has.new2 _ _ _ _ _) | (with_reducible refine Has.newAt ?_; (simp; done)) | (with_reducible apply Has.set) | (with_reducible apply Has.far; (case hn => first | assumption | (simp; done) | (intro e_; simp at e_; omega))) | (with_reducible apply Has.alloc) | (with_reducible apply Has.drewN) | (with_reducible apply Has.drew) | (with_reducible refine Has.keeps ?_ (by with_reducible assumption)))))); (first | (with_reducible assumption) | rfl | (simp; done) | fail))))
    ((go_at_call 118; refine (mload_at (M.keeps (by ((repeat' (first | (with_reducible exact Keeps.refl _) | (with_reducible assumption) | (with_reducible refine Keeps.drewN ?_ _) | (with_reducible refine Keeps.drew ?_) | (with_reducible refine Keeps.alloc ?_ _) | (with_reducible refine Keeps.setCell ?_ ?_ _) | (with_reducible refine Keeps.trans ?_ (After.keeps _)) | (with_reducible refine Keeps.trans ?_ (by with_reducible assumption)) | go_size)); (first | done | fail)))) q _ HQ.out HO.out hcc).mono ?_; rintro e w' ⟨rfl, hu2, M2⟩; have HP := (HP.keeps (by ((repeat' (first | (with_reducible exact Keeps.refl _) | (with_reducible assumption) | (with_reducible refine Keeps.drewN ?_ _) | (with_reducible refine Keeps.drew ?_) | (with_reducible refine Keeps.alloc ?_ _) | (with_reducible refine Keeps.setCell ?_ ?_ _) | (with_reducible refine Keeps.trans ?_ (After.keeps _)) | (with_reducible refine Keeps.trans ?_ (by with_reducible assumption)) | go_size)); (first | done | fail)))).upd hu2 (by simp only [List.mem_cons, List.not_mem_nil, or_false, not_or]; (repeat' apply And.intro) <;> assumption); have HS := (HS.keeps (by ((repeat' (first | (with_reducible exact Keeps.refl _) | (with_reducible assumption) | (with_reducible refine Keeps.drewN ?_ _) | (with_reducible refine Keeps.drew ?_) | (with_reducible refine Keeps.alloc ?_ _) | (with_reducible refine Keeps.setCell ?_ ?_ _) | (with_reducible refine Keeps.trans ?_ (After.keeps _)) | (with_reducible refine Keeps.trans ?_ (by with_reducible assumption)) | go_size)); (first | done | fail)))).upd hu2 (by simp only [List.mem_cons, List.not_mem_nil, or_false, not_or]; (repeat' apply And.intro) <;> assumption); have HL := (HL.keeps (by ((repeat' (first | (with_reducible exact Keeps.refl _) | (with_reducible assumption) | (with_reducible refine Keeps.drewN ?_ _) | (with_reducible refine Keeps.drew ?_) | (with_reducible refine Keeps.alloc ?_ _) | (with_reducible refine Keeps.setCell ?_ ?_ _) | (with_reducible refine Keeps.trans ?_ (After.keeps _)) | (with_reducible refine Keeps.trans ?_ (by with_reducible assumption)) | go_size)); (first | done | fail)))).upd hu2 (by simp only [List.mem_cons, List.not_mem_nil, or_false, not_or]; (repeat' apply And.intro) <;> assumption); have FX_ := (HP).facts; simp only [blockFacts, listFacts, cellsAt, Nat.reduceAdd, and_true, true_and, and_assoc] at FX_; have FX_ := (HS).facts; simp only [blockFacts, listFacts, cellsAt, Nat.reduceAdd, and_true, true_and, and_assoc, stackOf] at FX_))
  go_wp2_with (go_at_call 96; refine (below_c _ HS o0 o1 n0 n1).mono ?_; rintro e w' ⟨rfl, rfl⟩; rw [HT.out])
  refine wp_named' (fun W hW => ?_)
  have hu3 : Upd [g] w' W := by rw [hW]; (repeat (first | (with_reducible exact Upd.refl _ _) | (with_reducible assumption) | (with_reducible refine Upd.setCell ?_ (by first | (left; simp; done) | (right; go_size)) _) | (with_reducible refine Upd.alloc ?_ _) | (with_reducible refine Upd.drewN ?_ _) | (with_reducible refine Upd.drew ?_)))
  have HP : Has W g (popOf .nilFunc c S most t was (.slice (some ⟨lb, 0, none⟩) (k + 1) cap)) 177 := by rw [hW]; (apply Has.congr; (focus ((repeat (first | (with_reducible assumption) | (with_reducible exact Has.new _ _ _) | (with_reducible exact Has.new1 _ _ _ _) | (with_reducible exact Has.new2 _ _ _ _ _) | (with_reducible refine Has.newAt ?_; (simp; done)) | (with_reducible apply Has.set) | (with_reducible apply Has.far; (case hn => first | assumption | (simp; done) | (intro e_; simp at e_; omega))) | (with_reducible apply Has.alloc) | (with_reducible apply Has.drewN) | (with_reducible apply Has.drew) | (with_reducible refine Has.keeps ?_ (by with_reducible assumption)))))); (first | rfl | (simp; done)))
  have MW := M2.upd hu3 (by simp only [List.mem_cons, List.not_mem_nil, or_false, not_or]; (repeat' apply And.intro) <;> assumption) (by simp only [List.mem_cons, List.not_mem_nil, or_false, not_or]; (repeat' apply And.intro) <;> assumption)
  clear hW
  have hd0 : decide (0 ≤ t) = false := decide_eq_false (by omega)
  have ht2 : ¬ 0 ≤ t := by omega
  have FX_ := (HP).facts; simp only [blockFacts, listFacts, cellsAt, Nat.reduceAdd, and_true, true_and, and_assoc] at FX_
  go_quiet (fail)
  go_wp2_with (go_at_call 41; go_in)
  go_end0
  exact ⟨rfl, (Upd.drew (Upd.refl _ _)).trans ((hu2.mono (fun x hx => by simp at hx ⊢; omega)).trans ((hu3.mono (fun x hx => by simp at hx ⊢; omega)).trans (by (repeat (first | (with_reducible exact Upd.refl _ _) | (with_reducible assumption) | (with_reducible refine Upd.setCell ?_ (by first | (left; simp; done) | (right; go_size)) _) | (with_reducible refine Upd.alloc ?_ _) | (with_reducible refine Upd.drewN ?_ _) | (with_reducible refine Upd.drew ?_)))))), by (apply Has.congr; (focus ((repeat (first | (with_reducible assumption) | (with_reducible exact Has.new _ _ _) | (with_reducible exact Has.new1 _ _ _ _) | (with_reducible exact Has.new2 _ _ _ _ _) | (with_reducible refine Has.newAt ?_; (simp; done)) | (with_reducible apply Has.set) | (with_reducible apply Has.far; (case hn => first | assumption | (simp; done) | (intro e_; simp at e_; omega))) | (with_reducible apply Has.alloc) | (with_reducible apply Has.drewN) | (with_reducible apply Has.drew) | (with_reducible refine Has.keeps ?_ (by with_reducible assumption)))))); (first | rfl | (simp; done))), (by repeat' (first | (with_reducible assumption) | (with_reducible apply Mem.alloc) | (with_reducible apply Mem.drewN) | (with_reducible apply Mem.drew) | (with_reducible apply Mem.far; (case h1 => first | assumption | (simp; done) | (intro e_; simp at e_; omega)); (case h2 => first | assumption | (simp; done) | (intro e_; simp at e_; omega)))))⟩
theorem popLink_full (hP : Has w g (popOf .nilFunc c S most under was (.slice (some ⟨lb, 0, none⟩) (k + 1) cap)) 177) (hS : Has w S (stackOf m hd lk n) 143) (M : Mem w m b N l cc x)
    (hL : Has w lb cur 3) (hc1 : cur[k]? = some (.int .i64 a1)) (hk1 : k ≤ 1000000) (hq : lk + a1 = q) (hq1 : q ≤ 9000000) (ho : l[q]? = some o) (o0 : 0 ≤ o) (o1 : o < 18446744073709551616) (n0 : 0 ≤ n) (n1 : n ≤ 9000000) (ht : belowI n o = t) (t0 : -1 ≤ t) (t1 : t ≤ 9000000) (hcc : cc < 4611686018427387903) (t00 : 0 ≤ t) (hm : most ≤ (k : Int) + 1) :
    Calls Tryz.prog 134 #[.pointer (some ⟨g, 0, none⟩)] w fun e w' => e = .returned (.tuple #[]) ∧ Upd [g, m, b] w w' ∧
      Has w' g (popOf (bound 142 g) c S most t was (.slice (some ⟨lb, 0, none⟩) (k + 1) cap)) 177 ∧ Mem w' m b N l (cc + 1) ⟨1, q, o, o, true⟩ := by
  have ne_ := Has.ne hP hS (by decide); have ne_' := Ne.symm ne_
  have ne_ := Has.ne hP M.hg (by decide); have ne_' := Ne.symm ne_
  have ne_ := Has.ne hP M.hb (by decide); have ne_' := Ne.symm ne_
  have ne_ := Has.ne hP hL (by decide); have ne_' := Ne.symm ne_
  have ne_ := Has.ne hS M.hg (by decide); have ne_' := Ne.symm ne_
  have ne_ := Has.ne hS M.hb (by decide); have ne_' := Ne.symm ne_
  have ne_ := Has.ne hL M.hg (by decide); have ne_' := Ne.symm ne_
  have ne_ := Has.ne hL M.hb (by decide); have ne_' := Ne.symm ne_
  have ne_ := Has.ne hL hS (by decide); have ne_' := Ne.symm ne_
  have HO := Lib.hid ho
  have HQ := Lib.hid hq
  have HT := Lib.hid ht
  have p0 : 0 ≤ lk + a1 := by omega
  have p1 : lk + a1 ≤ 9000000 := by omega
  have pw := wrapI_ok (lk + a1) (by omega) (by omega)
  have pw4 := wrapI_ok ((k : Int) + 1 - 1) (by omega) (by omega)
  have pj : (k : Int) + 1 - 1 = k := by omega
  have pw5 := wrapI_ok (k : Int) (by omega) (by omega)
  have pi0 : (0 : Int) ≤ (k : Int) := by omega
  have pi1 : (k : Int) < (k : Int) + 1 := by omega
  have hm2 : ¬ (k : Int) + 1 < most := by omega
  clear ho hq ht
  have FX_ := (hP).facts; simp only [blockFacts, listFacts, cellsAt, Nat.reduceAdd, and_true, true_and, and_assoc] at FX_
  have FX_ := (hS).facts; simp only [blockFacts, listFacts, cellsAt, Nat.reduceAdd, and_true, true_and, and_assoc, stackOf] at FX_
  have HP := hP
  have HS := hS
  have HL := hL
  go_enter Tryz.func134, Tryz.ntmps134
  go_wp2
  go_region_held3 (fun y => (((y.cell? ⟨g, 5, none⟩ = some (.pointer (some ⟨S, 0, none⟩)) ∧ y.cell? ⟨S, 0, none⟩ = some (.pointer (some ⟨m, 0, none⟩))) ∧ y.cell? ⟨S, 2, none⟩ = some (.int .i64 lk)) ∧ y.cell? ⟨g, 9, none⟩ = some (.slice (some ⟨lb, 0, none⟩) (k + 1) cap)) ∧ y.cell? ⟨lb, k, none⟩ = some (.int .i64 a1)) (((repeat' (with_reducible apply And.intro)) <;> (apply Has.cellv; (focus ((repeat (first | (with_reducible assumption) | (with_reducible exact Has.new _ _ _) | (with_reducible exact Has.new1 _ _ _ _) | (with_reducible exact Has.new2 _ _ _ _ _) | (with_reducible refine Has.newAt ?_; (simp; done)) | (with_reducible apply Has.set) | (with_reducible apply Has.far; (case hn => first | assumption | (simp; done) | (intro e_; simp at e_; omega))) | (with_reducible apply Has.alloc) | (with_reducible apply Has.drewN) | (with_reducible apply Has.drew) | (with_reducible refine Has.keeps ?_ (by with_reducible assumption)))))); (first | (with_reducible assumption) | rfl | (simp; done) | fail))))
    ((go_at_call 118; refine (mload_at (M.keeps (by ((repeat' (first | (with_reducible exact Keeps.refl _) | (with_reducible assumption) | (with_reducible refine Keeps.drewN ?_ _) | (with_reducible refine Keeps.drew ?_) | (with_reducible refine Keeps.alloc ?_ _) | (with_reducible refine Keeps.setCell ?_ ?_ _) | (with_reducible refine Keeps.trans ?_ (After.keeps _)) | (with_reducible refine Keeps.trans ?_ (by with_reducible assumption)) | go_size)); (first | done | fail)))) q _ HQ.out HO.out hcc).mono ?_; rintro e w' ⟨rfl, hu2, M2⟩; have HP := (HP.keeps (by ((repeat' (first | (with_reducible exact Keeps.refl _) | (with_reducible assumption) | (with_reducible refine Keeps.drewN ?_ _) | (with_reducible refine Keeps.drew ?_) | (with_reducible refine Keeps.alloc ?_ _) | (with_reducible refine Keeps.setCell ?_ ?_ _) | (with_reducible refine Keeps.trans ?_ (After.keeps _)) | (with_reducible refine Keeps.trans ?_ (by with_reducible assumption)) | go_size)); (first | done | fail)))).upd hu2 (by simp only [List.mem_cons, List.not_mem_nil, or_false, not_or]; (repeat' apply And.intro) <;> assumption); have HS := (HS.keeps (by ((repeat' (first | (with_reducible exact Keeps.refl _) | (with_reducible assumption) | (with_reducible refine Keeps.drewN ?_ _) | (with_reducible refine Keeps.drew ?_) | (with_reducible refine Keeps.alloc ?_ _) | (with_reducible refine Keeps.setCell ?_ ?_ _) | (with_reducible refine Keeps.trans ?_ (After.keeps _)) | (with_reducible refine Keeps.trans ?_ (by with_reducible assumption)) | go_size)); (first | done | fail)))).upd hu2 (by simp only [List.mem_cons, List.not_mem_nil, or_false, not_or]; (repeat' apply And.intro) <;> assumption); have HL := (HL.keeps (by ((repeat' (first | (with_reducible exact Keeps.refl _) | (with_reducible assumption) | (with_reducible refine Keeps.drewN ?_ _) | (with_reducible refine Keeps.drew ?_) | (with_reducible refine Keeps.alloc ?_ _) | (with_reducible refine Keeps.setCell ?_ ?_ _) | (with_reducible refine Keeps.trans ?_ (After.keeps _)) | (with_reducible refine Keeps.trans ?_ (by with_reducible assumption)) | go_size)); (first | done | fail)))).upd hu2 (by simp only [List.mem_cons, List.not_mem_nil, or_false, not_or]; (repeat' apply And.intro) <;> assumption); have FX_ := (HP).facts; simp only [blockFacts, listFacts, cellsAt, Nat.reduceAdd, and_true, true_and, and_assoc] at FX_; have FX_ := (HS).facts; simp only [blockFacts, listFacts, cellsAt, Nat.reduceAdd, and_true, true_and, and_assoc, stackOf] at FX_))
  go_wp2_with (go_at_call 96; refine (below_c _ HS o0 o1 n0 n1).mono ?_; rintro e w' ⟨rfl, rfl⟩; rw [HT.out])
  refine wp_named' (fun W hW => ?_)
  have hu3 : Upd [g] w' W := by rw [hW]; (repeat (first | (with_reducible exact Upd.refl _ _) | (with_reducible assumption) | (with_reducible refine Upd.setCell ?_ (by first | (left; simp; done) | (right; go_size)) _) | (with_reducible refine Upd.alloc ?_ _) | (with_reducible refine Upd.drewN ?_ _) | (with_reducible refine Upd.drew ?_)))
  have HP : Has W g (popOf .nilFunc c S most t was (.slice (some ⟨lb, 0, none⟩) (k + 1) cap)) 177 := by rw [hW]; (apply Has.congr; (focus ((repeat (first | (with_reducible assumption) | (with_reducible exact Has.new _ _ _) | (with_reducible exact Has.new1 _ _ _ _) | (with_reducible exact Has.new2 _ _ _ _ _) | (with_reducible refine Has.newAt ?_; (simp; done)) | (with_reducible apply Has.set) | (with_reducible apply Has.far; (case hn => first | assumption | (simp; done) | (intro e_; simp at e_; omega))) | (with_reducible apply Has.alloc) | (with_reducible apply Has.drewN) | (with_reducible apply Has.drew) | (with_reducible refine Has.keeps ?_ (by with_reducible assumption)))))); (first | rfl | (simp; done)))
  have MW := M2.upd hu3 (by simp only [List.mem_cons, List.not_mem_nil, or_false, not_or]; (repeat' apply And.intro) <;> assumption) (by simp only [List.mem_cons, List.not_mem_nil, or_false, not_or]; (repeat' apply And.intro) <;> assumption)
  clear hW
  have hd0 : decide (0 ≤ t) = true := decide_eq_true (by omega)
  have hd1 : decide ((k : Int) + 1 < most) = false := decide_eq_false (by omega)
  have FX_ := (HP).facts; simp only [blockFacts, listFacts, cellsAt, Nat.reduceAdd, and_true, true_and, and_assoc] at FX_
  go_quiet (fail)
  go_wp2_with (go_at_call 41; go_in)
  go_end0
  exact ⟨rfl, (Upd.drew (Upd.refl _ _)).trans ((hu2.mono (fun x hx => by simp at hx ⊢; omega)).trans ((hu3.mono (fun x hx => by simp at hx ⊢; omega)).trans (by (repeat (first | (with_reducible exact Upd.refl _ _) | (with_reducible assumption) | (with_reducible refine Upd.setCell ?_ (by first | (left; simp; done) | (right; go_size)) _) | (with_reducible refine Upd.alloc ?_ _) | (with_reducible refine Upd.drewN ?_ _) | (with_reducible refine Upd.drew ?_)))))), by (apply Has.congr; (focus ((repeat (first | (with_reducible assumption) | (with_reducible exact Has.new _ _ _) | (with_reducible exact Has.new1 _ _ _ _) | (with_reducible exact Has.new2 _ _ _ _ _) | (with_reducible refine Has.newAt ?_; (simp; done)) | (with_reducible apply Has.set) | (with_reducible apply Has.far; (case hn => first | assumption | (simp; done) | (intro e_; simp at e_; omega))) | (with_reducible apply Has.alloc) | (with_reducible apply Has.drewN) | (with_reducible apply Has.drew) | (with_reducible refine Has.keeps ?_ (by with_reducible assumption)))))); (first | rfl | (simp; done))), (by repeat' (first | (with_reducible assumption) | (with_reducible apply Mem.alloc) | (with_reducible apply Mem.drewN) | (with_reducible apply Mem.drew) | (with_reducible apply Mem.far; (case h1 => first | assumption | (simp; done) | (intro e_; simp at e_; omega)); (case h2 => first | assumption | (simp; done) | (intro e_; simp at e_; omega)))))⟩
theorem popCas_eq {ad : Option Addr} {p0 p1 : Nat} (hP : Has w g (popOf .nilFunc c S most under was (.slice ad p0 p1)) 177) (hS : Has w S (stackOf m hd lk n) 143) (M : Mem w m b N l cc x)
    (ho : l[hd]? = some was) (u0 : 0 ≤ was) (u1 : was < 18446744073709551616) (hcc : cc < 4611686018427387903) :
    Calls Tryz.prog 142 #[.pointer (some ⟨g, 0, none⟩)] w fun e w' => e = .returned (.tuple #[]) ∧ Upd [g, m, b] w w' ∧
      Has w' g (popOf .nilFunc c S most under was (.slice ad p0 p1)) 177 ∧ Mem w' m b N (l.set hd (nextI was under)) (cc + 1) ⟨3, hd, was, nextI was under, true⟩ := by
  have ne_ := Has.ne hP hS (by decide); have ne_' := Ne.symm ne_
  have ne_ := Has.ne hP M.hg (by decide); have ne_' := Ne.symm ne_
  have ne_ := Has.ne hP M.hb (by decide); have ne_' := Ne.symm ne_
  have ne_ := Has.ne hS M.hg (by decide); have ne_' := Ne.symm ne_
  have ne_ := Has.ne hS M.hb (by decide); have ne_' := Ne.symm ne_
  have HO := Lib.hid ho
  clear ho
  have FX_ := (hP).facts; simp only [blockFacts, listFacts, cellsAt, Nat.reduceAdd, and_true, true_and, and_assoc] at FX_
  have FX_ := (hS).facts; simp only [blockFacts, listFacts, cellsAt, Nat.reduceAdd, and_true, true_and, and_assoc, stackOf] at FX_
  have HP := hP
  have HS := hS
  go_enter Tryz.func142, Tryz.ntmps142
  go_wp2
  go_region_held3 (fun y => (y.cell? ⟨g, 5, none⟩ = some (.pointer (some ⟨S, 0, none⟩)) ∧ y.cell? ⟨g, 7, none⟩ = some (.int .i64 under)) ∧ y.cell? ⟨g, 8, none⟩ = some (.int .u64 was)) (((repeat' (with_reducible apply And.intro)) <;> (apply Has.cellv; (focus ((repeat (first | (with_reducible assumption) | (with_reducible exact Has.new _ _ _) | (with_reducible exact Has.new1 _ _ _ _) | (with_reducible exact Has.new2 _ _ _ _ _) | (with_reducible refine Has.newAt ?_; (simp; done)) | (with_reducible apply Has.set) | (with_reducible apply Has.far; (case hn => first | assumption | (simp; done) | (intro e_; simp at e_; omega))) | (with_reducible apply Has.alloc) | (with_reducible apply Has.drewN) | (with_reducible apply Has.drew) | (with_reducible refine Has.keeps ?_ (by with_reducible assumption)))))); (first | (with_reducible assumption) | rfl | (simp; done) | fail))))
    ((go_at_call 144; refine (exchange_eq hd _ _ (HS.keeps (by ((repeat' (first | (with_reducible exact Keeps.refl _) | (with_reducible assumption) | (with_reducible refine Keeps.drewN ?_ _) | (with_reducible refine Keeps.drew ?_) | (with_reducible refine Keeps.alloc ?_ _) | (with_reducible refine Keeps.setCell ?_ ?_ _) | (with_reducible refine Keeps.trans ?_ (After.keeps _)) | (with_reducible refine Keeps.trans ?_ (by with_reducible assumption)) | go_size)); (first | done | fail)))) (M.keeps (by ((repeat' (first | (with_reducible exact Keeps.refl _) | (with_reducible assumption) | (with_reducible refine Keeps.drewN ?_ _) | (with_reducible refine Keeps.drew ?_) | (with_reducible refine Keeps.alloc ?_ _) | (with_reducible refine Keeps.setCell ?_ ?_ _) | (with_reducible refine Keeps.trans ?_ (After.keeps _)) | (with_reducible refine Keeps.trans ?_ (by with_reducible assumption)) | go_size)); (first | done | fail)))) u0 u1 HO.out hcc).mono ?_; rintro e w' ⟨rfl, hu2, M2⟩; have HP := (HP.keeps (by ((repeat' (first | (with_reducible exact Keeps.refl _) | (with_reducible assumption) | (with_reducible refine Keeps.drewN ?_ _) | (with_reducible refine Keeps.drew ?_) | (with_reducible refine Keeps.alloc ?_ _) | (with_reducible refine Keeps.setCell ?_ ?_ _) | (with_reducible refine Keeps.trans ?_ (After.keeps _)) | (with_reducible refine Keeps.trans ?_ (by with_reducible assumption)) | go_size)); (first | done | fail)))).upd hu2 (by simp only [List.mem_cons, List.not_mem_nil, or_false, not_or]; (repeat' apply And.intro) <;> assumption); have HS := (HS.keeps (by ((repeat' (first | (with_reducible exact Keeps.refl _) | (with_reducible assumption) | (with_reducible refine Keeps.drewN ?_ _) | (with_reducible refine Keeps.drew ?_) | (with_reducible refine Keeps.alloc ?_ _) | (with_reducible refine Keeps.setCell ?_ ?_ _) | (with_reducible refine Keeps.trans ?_ (After.keeps _)) | (with_reducible refine Keeps.trans ?_ (by with_reducible assumption)) | go_size)); (first | done | fail)))).upd hu2 (by simp only [List.mem_cons, List.not_mem_nil, or_false, not_or]; (repeat' apply And.intro) <;> assumption); have FX_ := (HP).facts; simp only [blockFacts, listFacts, cellsAt, Nat.reduceAdd, and_true, true_and, and_assoc] at FX_; have FX_ := (HS).facts; simp only [blockFacts, listFacts, cellsAt, Nat.reduceAdd, and_true, true_and, and_assoc, stackOf] at FX_))
  go_wp2
  go_end0
  exact ⟨rfl, (Upd.drew (Upd.refl _ _)).trans (hu2.mono (fun x hx => by simp at hx ⊢; omega)), by (apply Has.congr; (focus ((repeat (first | (with_reducible assumption) | (with_reducible exact Has.new _ _ _) | (with_reducible exact Has.new1 _ _ _ _) | (with_reducible exact Has.new2 _ _ _ _ _) | (with_reducible refine Has.newAt ?_; (simp; done)) | (with_reducible apply Has.set) | (with_reducible apply Has.far; (case hn => first | assumption | (simp; done) | (intro e_; simp at e_; omega))) | (with_reducible apply Has.alloc) | (with_reducible apply Has.drewN) | (with_reducible apply Has.drew) | (with_reducible refine Has.keeps ?_ (by with_reducible assumption)))))); (first | rfl | (simp; done))), (by repeat' (first | (with_reducible assumption) | (with_reducible apply Mem.alloc) | (with_reducible apply Mem.drewN) | (with_reducible apply Mem.drew) | (with_reducible apply Mem.far; (case h1 => first | assumption | (simp; done) | (intro e_; simp at e_; omega)); (case h2 => first | assumption | (simp; done) | (intro e_; simp at e_; omega)))))⟩
theorem popCas_ne {ad : Option Addr} {p0 p1 : Nat} (hP : Has w g (popOf .nilFunc c S most under was (.slice ad p0 p1)) 177) (hS : Has w S (stackOf m hd lk n) 143) (M : Mem w m b N l cc x)
    (ho : l[hd]? = some o) (u0 : 0 ≤ was) (u1 : was < 18446744073709551616) (hcc : cc < 4611686018427387903) (hov : ¬ o = was) :
    Calls Tryz.prog 142 #[.pointer (some ⟨g, 0, none⟩)] w fun e w' => e = .returned (.tuple #[]) ∧ Upd [g, m, b] w w' ∧
      Has w' g (popOf (bound 114 g) c S most under was (.slice ad p0 p1)) 177 ∧ Mem w' m b N l (cc + 1) ⟨3, hd, o, o, false⟩ := by
  have ne_ := Has.ne hP hS (by decide); have ne_' := Ne.symm ne_
  have ne_ := Has.ne hP M.hg (by decide); have ne_' := Ne.symm ne_
  have ne_ := Has.ne hP M.hb (by decide); have ne_' := Ne.symm ne_
  have ne_ := Has.ne hS M.hg (by decide); have ne_' := Ne.symm ne_
  have ne_ := Has.ne hS M.hb (by decide); have ne_' := Ne.symm ne_
  have HO := Lib.hid ho
  clear ho
  have FX_ := (hP).facts; simp only [blockFacts, listFacts, cellsAt, Nat.reduceAdd, and_true, true_and, and_assoc] at FX_
  have FX_ := (hS).facts; simp only [blockFacts, listFacts, cellsAt, Nat.reduceAdd, and_true, true_and, and_assoc, stackOf] at FX_
  have HP := hP
  have HS := hS
  go_enter Tryz.func142, Tryz.ntmps142
  go_wp2
  go_region_held3 (fun y => (y.cell? ⟨g, 5, none⟩ = some (.pointer (some ⟨S, 0, none⟩)) ∧ y.cell? ⟨g, 7, none⟩ = some (.int .i64 under)) ∧ y.cell? ⟨g, 8, none⟩ = some (.int .u64 was)) (((repeat' (with_reducible apply And.intro)) <;> (apply Has.cellv; (focus ((repeat (first | (with_reducible assumption) | (with_reducible exact Has.new _ _ _) | (with_reducible exact Has.new1 _ _ _ _) | (with_reducible exact Has.new2 _ _ _ _ _) | (with_reducible refine Has.newAt ?_; (simp; done)) | (with_reducible apply Has.set) | (with_reducible apply Has.far; (case hn => first | assumption | (simp; done) | (intro e_; simp at e_; omega))) | (with_reducible apply Has.alloc) | (with_reducible apply Has.drewN) | (with_reducible apply Has.drew) | (with_reducible refine Has.keeps ?_ (by with_reducible assumption)))))); (first | (with_reducible assumption) | rfl | (simp; done) | fail))))
    ((go_at_call 144; refine (exchange_ne hd _ _ _ (HS.keeps (by ((repeat' (first | (with_reducible exact Keeps.refl _) | (with_reducible assumption) | (with_reducible refine Keeps.drewN ?_ _) | (with_reducible refine Keeps.drew ?_) | (with_reducible refine Keeps.alloc ?_ _) | (with_reducible refine Keeps.setCell ?_ ?_ _) | (with_reducible refine Keeps.trans ?_ (After.keeps _)) | (with_reducible refine Keeps.trans ?_ (by with_reducible assumption)) | go_size)); (first | done | fail)))) (M.keeps (by ((repeat' (first | (with_reducible exact Keeps.refl _) | (with_reducible assumption) | (with_reducible refine Keeps.drewN ?_ _) | (with_reducible refine Keeps.drew ?_) | (with_reducible refine Keeps.alloc ?_ _) | (with_reducible refine Keeps.setCell ?_ ?_ _) | (with_reducible refine Keeps.trans ?_ (After.keeps _)) | (with_reducible refine Keeps.trans ?_ (by with_reducible assumption)) | go_size)); (first | done | fail)))) u0 u1 HO.out hov hcc).mono ?_; rintro e w' ⟨rfl, hu2, M2⟩; have HP := (HP.keeps (by ((repeat' (first | (with_reducible exact Keeps.refl _) | (with_reducible assumption) | (with_reducible refine Keeps.drewN ?_ _) | (with_reducible refine Keeps.drew ?_) | (with_reducible refine Keeps.alloc ?_ _) | (with_reducible refine Keeps.setCell ?_ ?_ _) | (with_reducible refine Keeps.trans ?_ (After.keeps _)) | (with_reducible refine Keeps.trans ?_ (by with_reducible assumption)) | go_size)); (first | done | fail)))).upd hu2 (by simp only [List.mem_cons, List.not_mem_nil, or_false, not_or]; (repeat' apply And.intro) <;> assumption); have HS := (HS.keeps (by ((repeat' (first | (with_reducible exact Keeps.refl _) | (with_reducible assumption) | (with_reducible refine Keeps.drewN ?_ _) | (with_reducible refine Keeps.drew ?_) | (with_reducible refine Keeps.alloc ?_ _) | (with_reducible refine Keeps.setCell ?_ ?_ _) | (with_reducible refine Keeps.trans ?_ (After.keeps _)) | (with_reducible refine Keeps.trans ?_ (by with_reducible assumption)) | go_size)); (first | done | fail)))).upd hu2 (by simp only [List.mem_cons, List.not_mem_nil, or_false, not_or]; (repeat' apply And.intro) <;> assumption); have FX_ := (HP).facts; simp only [blockFacts, listFacts, cellsAt, Nat.reduceAdd, and_true, true_and, and_assoc] at FX_; have FX_ := (HS).facts; simp only [blockFacts, listFacts, cellsAt, Nat.reduceAdd, and_true, true_and, and_assoc, stackOf] at FX_))
  go_wp2_with (go_at_call 41; go_in)
  go_end0
  exact ⟨rfl, (Upd.drew (Upd.refl _ _)).trans ((hu2.mono (fun x hx => by simp at hx ⊢; omega)).trans (by (repeat (first | (with_reducible exact Upd.refl _ _) | (with_reducible assumption) | (with_reducible refine Upd.setCell ?_ (by first | (left; simp; done) | (right; go_size)) _) | (with_reducible refine Upd.alloc ?_ _) | (with_reducible refine Upd.drewN ?_ _) | (with_reducible refine Upd.drew ?_))))), by (apply Has.congr; (focus ((repeat (first | (with_reducible assumption) | (with_reducible exact Has.new _ _ _) | (with_reducible exact Has.new1 _ _ _ _) | (with_reducible exact Has.new2 _ _ _ _ _) | (with_reducible refine Has.newAt ?_; (simp; done)) | (with_reducible apply Has.set) | (with_reducible apply Has.far; (case hn => first | assumption | (simp; done) | (intro e_; simp at e_; omega))) | (with_reducible apply Has.alloc) | (with_reducible apply Has.drewN) | (with_reducible apply Has.drew) | (with_reducible refine Has.keeps ?_ (by with_reducible assumption)))))); (first | rfl | (simp; done))), (by repeat' (first | (with_reducible assumption) | (with_reducible apply Mem.alloc) | (with_reducible apply Mem.drewN) | (with_reducible apply Mem.drew) | (with_reducible apply Mem.far; (case h1 => first | assumption | (simp; done) | (intro e_; simp at e_; omega)); (case h2 => first | assumption | (simp; done) | (intro e_; simp at e_; omega)))))⟩
end
end Go.Proofs.YtaecapjicphdkaaGreat
