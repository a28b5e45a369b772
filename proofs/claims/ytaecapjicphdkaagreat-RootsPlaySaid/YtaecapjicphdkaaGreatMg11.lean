/- The machine Push: its last accesses, walked. -/
import Derived.Test.YtaecapjicphdkaaGreatMg10
import Derived.Test.YtaecapjicphdkaaGreatMg08
import Derived.Test.YtaecapjicphdkaaGreatMg09
namespace Go.Proofs.YtaecapjicphdkaaGreat
set_option linter.unusedVariables false
set_option linter.unusedSimpArgs false
open Go Go.RowKit
set_option maxRecDepth 100000
attribute [local go_sem ↓] Go.wp_at_zero Go.wp_at_succ
set_option maxHeartbeats 1000000

section
variable {w : World} {S m b N : Nat} {hd : Nat} {lk n : Int} {l : List Int} {cc : Int} {x : Acc} {g lb k cap i q : Nat} {cur : Array Value} {c was a1 a2 o : Int}
theorem pushLast_c {t : Int} (hP : Has w g (pushOf .nilFunc c S (.slice (some ⟨lb, 0, none⟩) k cap) i was) 152) (hS : Has w S (stackOf m hd lk n) 143) (M : Mem w m b N l cc x)
    (hL : Has w lb cur 3) (hc1 : cur[k - 1]? = some (.int .i64 a1)) (hk : 1 ≤ k) (hk1 : k ≤ 1000000) (hq : lk + a1 = q) (hq1 : q ≤ 9000000) (ho : l[q]? = some o) (u0 : 0 ≤ was) (u1 : was < 18446744073709551616) (ht : topI n was = t) (t0 : -1 ≤ t) (t1 : t ≤ 9000000) (hcc : cc < 4611686018427387903) :
    Calls Tryz.prog 123 #[.pointer (some ⟨g, 0, none⟩)] w fun e w' => e = .returned (.tuple #[]) ∧ Upd [g, m, b] w w' ∧
      Has w' g (pushOf (bound 141 g) c S (.slice (some ⟨lb, 0, none⟩) k cap) i was) 152 ∧ Mem w' m b N (l.set q (t + 1)) (cc + 1) ⟨2, q, o, t + 1, true⟩ := by
  have ne_ := Has.ne hP hS (by decide); have ne_' := Ne.symm ne_
  have ne_ := Has.ne hP M.hg (by decide); have ne_' := Ne.symm ne_
  have ne_ := Has.ne hP M.hb (by decide); have ne_' := Ne.symm ne_
  have ne_ := Has.ne hP hL (by decide); have ne_' := Ne.symm ne_
  have ne_ := Has.ne hS M.hg (by decide); have ne_' := Ne.symm ne_
  have ne_ := Has.ne hS M.hb (by decide); have ne_' := Ne.symm ne_
  have ne_ := Has.ne hL M.hg (by decide); have ne_' := Ne.symm ne_
  have ne_ := Has.ne hL M.hb (by decide); have ne_' := Ne.symm ne_
  have ne_ := Has.ne hL hS (by decide); have ne_' := Ne.symm ne_
  obtain ⟨j, rfl⟩ : ∃ j, k = j + 1 := ⟨k - 1, by omega⟩
  rw [show j + 1 - 1 = j from rfl] at hc1
  have HO := Lib.hid ho
  have HQ := Lib.hid hq
  have HT := Lib.hid ht
  have p0 : 0 ≤ lk + a1 := by omega
  have p1 : lk + a1 ≤ 9000000 := by omega
  have pw := wrapI_ok (lk + a1) (by omega) (by omega)
  have pw2 := wrapI_ok (t + 1) (by omega) (by omega)
  have pw3 := wrapW_ok (t + 1) (by omega) (by omega)
  have pw4 := wrapI_ok ((j : Int) + 1 - 1) (by omega) (by omega)
  have pj : (j : Int) + 1 - 1 = j := by omega
  have pw5 := wrapI_ok (j : Int) (by omega) (by omega)
  have pi0 : (0 : Int) ≤ (j : Int) := by omega
  have pi1 : (j : Int) < (j : Int) + 1 := by omega
  clear ho hq ht
  have FX_ := (hP).facts; simp only [blockFacts, listFacts, cellsAt, Nat.reduceAdd, and_true, true_and, and_assoc] at FX_
  have FX_ := (hS).facts; simp only [blockFacts, listFacts, cellsAt, Nat.reduceAdd, and_true, true_and, and_assoc, stackOf] at FX_
  have HP := hP
  have HS := hS
  have HL := hL
  go_enter Tryz.func123, Tryz.ntmps123
  go_wp2
  go_region_held3 (fun y => ((((y.cell? ⟨g, 5, none⟩ = some (.pointer (some ⟨S, 0, none⟩)) ∧ y.cell? ⟨S, 0, none⟩ = some (.pointer (some ⟨m, 0, none⟩))) ∧ y.cell? ⟨S, 2, none⟩ = some (.int .i64 lk)) ∧ y.cell? ⟨g, 6, none⟩ = some (.slice (some ⟨lb, 0, none⟩) (j + 1) cap) ∧ y.cell? ⟨g, 8, none⟩ = some (.int .u64 was)) ∧ y.cell? ⟨lb, j, none⟩ = some (.int .i64 a1))) (((repeat' (with_reducible apply And.intro)) <;> (apply Has.cellv; (focus ((repeat (first | (with_reducible assumption) | (with_reducible exact Has.new _ _ _) | (with_reducible exact Has.new1 _ _ _ _) | (with_reducible exact Has.new2 _ _ _ _ _) | (with_reducible refine Has.newAt ?_; (simp; done)) | (with_reducible apply Has.set) | (with_reducible apply Has.far; (case hn => first | assumption | (simp; done) | (intro e_; simp at e_; omega))) | (with_reducible apply Has.alloc) | (with_reducible apply Has.drewN) | (with_reducible apply Has.drew) | (with_reducible refine Has.keeps ?_ (by with_reducible assumption)))))); (first | (with_reducible assumption) | rfl | (simp; done) | fail))))
    (first
     | (go_at_call 95; refine (top_c _ (HS.keeps (by ((repeat' (first | (with_reducible exact Keeps.refl _) | (with_reducible assumption) | (with_reducible refine Keeps.drewN ?_ _) | (with_reducible refine Keeps.drew ?_) | (with_reducible refine Keeps.alloc ?_ _) | (with_reducible refine Keeps.setCell ?_ ?_ _) | (with_reducible refine Keeps.trans ?_ (After.keeps _)) | (with_reducible refine Keeps.trans ?_ (by with_reducible assumption)) | go_size)); (first | done | fail)))) u0 u1).mono ?_; rintro e w' ⟨rfl, hk5⟩; rw [HT.out]; have HKt := ((Keeps.refl w).drew).trans hk5; have HP := (HP.keeps (by ((repeat' (first | (with_reducible exact Keeps.refl _) | (with_reducible assumption) | (with_reducible refine Keeps.drewN ?_ _) | (with_reducible refine Keeps.drew ?_) | (with_reducible refine Keeps.alloc ?_ _) | (with_reducible refine Keeps.setCell ?_ ?_ _) | (with_reducible refine Keeps.trans ?_ (After.keeps _)) | (with_reducible refine Keeps.trans ?_ (by with_reducible assumption)) | go_size)); (first | done | fail)))).keeps hk5; have HS := (HS.keeps (by ((repeat' (first | (with_reducible exact Keeps.refl _) | (with_reducible assumption) | (with_reducible refine Keeps.drewN ?_ _) | (with_reducible refine Keeps.drew ?_) | (with_reducible refine Keeps.alloc ?_ _) | (with_reducible refine Keeps.setCell ?_ ?_ _) | (with_reducible refine Keeps.trans ?_ (After.keeps _)) | (with_reducible refine Keeps.trans ?_ (by with_reducible assumption)) | go_size)); (first | done | fail)))).keeps hk5; have HL := (HL.keeps (by ((repeat' (first | (with_reducible exact Keeps.refl _) | (with_reducible assumption) | (with_reducible refine Keeps.drewN ?_ _) | (with_reducible refine Keeps.drew ?_) | (with_reducible refine Keeps.alloc ?_ _) | (with_reducible refine Keeps.setCell ?_ ?_ _) | (with_reducible refine Keeps.trans ?_ (After.keeps _)) | (with_reducible refine Keeps.trans ?_ (by with_reducible assumption)) | go_size)); (first | done | fail)))).keeps hk5)
     | (go_at_call 124; refine (mstore_at (M.keeps (by ((repeat' (first | (with_reducible exact Keeps.refl _) | (with_reducible assumption) | (with_reducible refine Keeps.drewN ?_ _) | (with_reducible refine Keeps.drew ?_) | (with_reducible refine Keeps.alloc ?_ _) | (with_reducible refine Keeps.setCell ?_ ?_ _) | (with_reducible refine Keeps.trans ?_ (After.keeps _)) | (with_reducible refine Keeps.trans ?_ (by with_reducible assumption)) | go_size)); (first | done | fail)))) q _ _ HQ.out HO.out hcc).mono ?_; rintro e w' ⟨rfl, hu2, M2⟩; have HP := (HP.keeps (by ((repeat' (first | (with_reducible exact Keeps.refl _) | (with_reducible assumption) | (with_reducible refine Keeps.drewN ?_ _) | (with_reducible refine Keeps.drew ?_) | (with_reducible refine Keeps.alloc ?_ _) | (with_reducible refine Keeps.setCell ?_ ?_ _) | (with_reducible refine Keeps.trans ?_ (After.keeps _)) | (with_reducible refine Keeps.trans ?_ (by with_reducible assumption)) | go_size)); (first | done | fail)))).upd hu2 (by simp only [List.mem_cons, List.not_mem_nil, or_false, not_or]; (repeat' apply And.intro) <;> assumption); have HS := (HS.keeps (by ((repeat' (first | (with_reducible exact Keeps.refl _) | (with_reducible assumption) | (with_reducible refine Keeps.drewN ?_ _) | (with_reducible refine Keeps.drew ?_) | (with_reducible refine Keeps.alloc ?_ _) | (with_reducible refine Keeps.setCell ?_ ?_ _) | (with_reducible refine Keeps.trans ?_ (After.keeps _)) | (with_reducible refine Keeps.trans ?_ (by with_reducible assumption)) | go_size)); (first | done | fail)))).upd hu2 (by simp only [List.mem_cons, List.not_mem_nil, or_false, not_or]; (repeat' apply And.intro) <;> assumption); have HL := (HL.keeps (by ((repeat' (first | (with_reducible exact Keeps.refl _) | (with_reducible assumption) | (with_reducible refine Keeps.drewN ?_ _) | (with_reducible refine Keeps.drew ?_) | (with_reducible refine Keeps.alloc ?_ _) | (with_reducible refine Keeps.setCell ?_ ?_ _) | (with_reducible refine Keeps.trans ?_ (After.keeps _)) | (with_reducible refine Keeps.trans ?_ (by with_reducible assumption)) | go_size)); (first | done | fail)))).upd hu2 (by simp only [List.mem_cons, List.not_mem_nil, or_false, not_or]; (repeat' apply And.intro) <;> assumption); have FX_ := (HP).facts; simp only [blockFacts, listFacts, cellsAt, Nat.reduceAdd, and_true, true_and, and_assoc] at FX_; have FX_ := (HS).facts; simp only [blockFacts, listFacts, cellsAt, Nat.reduceAdd, and_true, true_and, and_assoc, stackOf] at FX_))
  go_wp2_with (go_at_call 41; go_in)
  go_end0
  exact ⟨rfl, (Upd.of_keeps HKt).trans ((hu2.mono (fun x hx => by simp at hx ⊢; omega)).trans (by (repeat (first | (with_reducible exact Upd.refl _ _) | (with_reducible assumption) | (with_reducible refine Upd.setCell ?_ (by first | (left; simp; done) | (right; go_size)) _) | (with_reducible refine Upd.alloc ?_ _) | (with_reducible refine Upd.drewN ?_ _) | (with_reducible refine Upd.drew ?_))))), by (apply Has.congr; (focus ((repeat (first | (with_reducible assumption) | (with_reducible exact Has.new _ _ _) | (with_reducible exact Has.new1 _ _ _ _) | (with_reducible exact Has.new2 _ _ _ _ _) | (with_reducible refine Has.newAt ?_; (simp; done)) | (with_reducible apply Has.set) | (with_reducible apply Has.far; (case hn => first | assumption | (simp; done) | (intro e_; simp at e_; omega))) | (with_reducible apply Has.alloc) | (with_reducible apply Has.drewN) | (with_reducible apply Has.drew) | (with_reducible refine Has.keeps ?_ (by with_reducible assumption)))))); (first | rfl | (simp; done))), (by repeat' (first | (with_reducible assumption) | (with_reducible apply Mem.alloc) | (with_reducible apply Mem.drewN) | (with_reducible apply Mem.drew) | (with_reducible apply Mem.far; (case h1 => first | assumption | (simp; done) | (intro e_; simp at e_; omega)); (case h2 => first | assumption | (simp; done) | (intro e_; simp at e_; omega)))))⟩
theorem pushCas_eq (hP : Has w g (pushOf .nilFunc c S (.slice (some ⟨lb, 0, none⟩) k cap) i was) 152) (hS : Has w S (stackOf m hd lk n) 143) (M : Mem w m b N l cc x)
    (hL : Has w lb cur 3) (hc1 : cur[0]? = some (.int .i64 a1)) (hk : 1 ≤ k) (ho : l[hd]? = some was) (u0 : 0 ≤ was) (u1 : was < 18446744073709551616) (hcc : cc < 4611686018427387903) :
    Calls Tryz.prog 141 #[.pointer (some ⟨g, 0, none⟩)] w fun e w' => e = .returned (.tuple #[]) ∧ Upd [g, m, b] w w' ∧
      Has w' g (pushOf .nilFunc c S (.slice (some ⟨lb, 0, none⟩) k cap) i was) 152 ∧ Mem w' m b N (l.set hd (nextI was a1)) (cc + 1) ⟨3, hd, was, nextI was a1, true⟩ := by
  have ne_ := Has.ne hP hS (by decide); have ne_' := Ne.symm ne_
  have ne_ := Has.ne hP M.hg (by decide); have ne_' := Ne.symm ne_
  have ne_ := Has.ne hP M.hb (by decide); have ne_' := Ne.symm ne_
  have ne_ := Has.ne hP hL (by decide); have ne_' := Ne.symm ne_
  have ne_ := Has.ne hS M.hg (by decide); have ne_' := Ne.symm ne_
  have ne_ := Has.ne hS M.hb (by decide); have ne_' := Ne.symm ne_
  have ne_ := Has.ne hL M.hg (by decide); have ne_' := Ne.symm ne_
  have ne_ := Has.ne hL M.hb (by decide); have ne_' := Ne.symm ne_
  have ne_ := Has.ne hL hS (by decide); have ne_' := Ne.symm ne_
  have HO := Lib.hid ho
  have pi1 : (0 : Int) < (k : Int) := by omega
  have pk : 0 < k := by omega
  clear ho
  have FX_ := (hP).facts; simp only [blockFacts, listFacts, cellsAt, Nat.reduceAdd, and_true, true_and, and_assoc] at FX_
  have FX_ := (hS).facts; simp only [blockFacts, listFacts, cellsAt, Nat.reduceAdd, and_true, true_and, and_assoc, stackOf] at FX_
  have HP := hP
  have HS := hS
  have HL := hL
  go_enter Tryz.func141, Tryz.ntmps141
  go_wp2
  go_region_held3 (fun y => ((y.cell? ⟨g, 5, none⟩ = some (.pointer (some ⟨S, 0, none⟩)) ∧ y.cell? ⟨g, 6, none⟩ = some (.slice (some ⟨lb, 0, none⟩) k cap)) ∧ y.cell? ⟨g, 8, none⟩ = some (.int .u64 was)) ∧ y.cell? ⟨lb, 0, none⟩ = some (.int .i64 a1)) (((repeat' (with_reducible apply And.intro)) <;> (apply Has.cellv; (focus ((repeat (first | (with_reducible assumption) | (with_reducible exact Has.new _ _ _) | (with_reducible exact Has.new1 _ _ _ _) | (with_reducible exact Has.new2 _ _ _ _ _) | (with_reducible refine Has.newAt ?_; (simp; done)) | (with_reducible apply Has.set) | (with_reducible apply Has.far; (case hn => first | assumption | (simp; done) | (intro e_; simp at e_; omega))) | (with_reducible apply Has.alloc) | (with_reducible apply Has.drewN) | (with_reducible apply Has.drew) | (with_reducible refine Has.keeps ?_ (by with_reducible assumption)))))); (first | (with_reducible assumption) | rfl | (simp; done) | fail))))
    ((go_at_call 144; refine (exchange_eq hd _ _ (HS.keeps (by ((repeat' (first | (with_reducible exact Keeps.refl _) | (with_reducible assumption) | (with_reducible refine Keeps.drewN ?_ _) | (with_reducible refine Keeps.drew ?_) | (with_reducible refine Keeps.alloc ?_ _) | (with_reducible refine Keeps.setCell ?_ ?_ _) | (with_reducible refine Keeps.trans ?_ (After.keeps _)) | (with_reducible refine Keeps.trans ?_ (by with_reducible assumption)) | go_size)); (first | done | fail)))) (M.keeps (by ((repeat' (first | (with_reducible exact Keeps.refl _) | (with_reducible assumption) | (with_reducible refine Keeps.drewN ?_ _) | (with_reducible refine Keeps.drew ?_) | (with_reducible refine Keeps.alloc ?_ _) | (with_reducible refine Keeps.setCell ?_ ?_ _) | (with_reducible refine Keeps.trans ?_ (After.keeps _)) | (with_reducible refine Keeps.trans ?_ (by with_reducible assumption)) | go_size)); (first | done | fail)))) u0 u1 HO.out hcc).mono ?_; rintro e w' ⟨rfl, hu2, M2⟩; have HP := (HP.keeps (by ((repeat' (first | (with_reducible exact Keeps.refl _) | (with_reducible assumption) | (with_reducible refine Keeps.drewN ?_ _) | (with_reducible refine Keeps.drew ?_) | (with_reducible refine Keeps.alloc ?_ _) | (with_reducible refine Keeps.setCell ?_ ?_ _) | (with_reducible refine Keeps.trans ?_ (After.keeps _)) | (with_reducible refine Keeps.trans ?_ (by with_reducible assumption)) | go_size)); (first | done | fail)))).upd hu2 (by simp only [List.mem_cons, List.not_mem_nil, or_false, not_or]; (repeat' apply And.intro) <;> assumption); have HS := (HS.keeps (by ((repeat' (first | (with_reducible exact Keeps.refl _) | (with_reducible assumption) | (with_reducible refine Keeps.drewN ?_ _) | (with_reducible refine Keeps.drew ?_) | (with_reducible refine Keeps.alloc ?_ _) | (with_reducible refine Keeps.setCell ?_ ?_ _) | (with_reducible refine Keeps.trans ?_ (After.keeps _)) | (with_reducible refine Keeps.trans ?_ (by with_reducible assumption)) | go_size)); (first | done | fail)))).upd hu2 (by simp only [List.mem_cons, List.not_mem_nil, or_false, not_or]; (repeat' apply And.intro) <;> assumption); have HL := (HL.keeps (by ((repeat' (first | (with_reducible exact Keeps.refl _) | (with_reducible assumption) | (with_reducible refine Keeps.drewN ?_ _) | (with_reducible refine Keeps.drew ?_) | (with_reducible refine Keeps.alloc ?_ _) | (with_reducible refine Keeps.setCell ?_ ?_ _) | (with_reducible refine Keeps.trans ?_ (After.keeps _)) | (with_reducible refine Keeps.trans ?_ (by with_reducible assumption)) | go_size)); (first | done | fail)))).upd hu2 (by simp only [List.mem_cons, List.not_mem_nil, or_false, not_or]; (repeat' apply And.intro) <;> assumption); have FX_ := (HP).facts; simp only [blockFacts, listFacts, cellsAt, Nat.reduceAdd, and_true, true_and, and_assoc] at FX_; have FX_ := (HS).facts; simp only [blockFacts, listFacts, cellsAt, Nat.reduceAdd, and_true, true_and, and_assoc, stackOf] at FX_))
  go_wp2
  go_end0
  exact ⟨rfl, (Upd.drew (Upd.refl _ _)).trans (hu2.mono (fun x hx => by simp at hx ⊢; omega)), by (apply Has.congr; (focus ((repeat (first | (with_reducible assumption) | (with_reducible exact Has.new _ _ _) | (with_reducible exact Has.new1 _ _ _ _) | (with_reducible exact Has.new2 _ _ _ _ _) | (with_reducible refine Has.newAt ?_; (simp; done)) | (with_reducible apply Has.set) | (with_reducible apply Has.far; (case hn => first | assumption | (simp; done) | (intro e_; simp at e_; omega))) | (with_reducible apply Has.alloc) | (with_reducible apply Has.drewN) | (with_reducible apply Has.drew) | (with_reducible refine Has.keeps ?_ (by with_reducible assumption)))))); (first | rfl | (simp; done))), (by repeat' (first | (with_reducible assumption) | (with_reducible apply Mem.alloc) | (with_reducible apply Mem.drewN) | (with_reducible apply Mem.drew) | (with_reducible apply Mem.far; (case h1 => first | assumption | (simp; done) | (intro e_; simp at e_; omega)); (case h2 => first | assumption | (simp; done) | (intro e_; simp at e_; omega)))))⟩
theorem pushCas_ne (hP : Has w g (pushOf .nilFunc c S (.slice (some ⟨lb, 0, none⟩) k cap) i was) 152) (hS : Has w S (stackOf m hd lk n) 143) (M : Mem w m b N l cc x)
    (hL : Has w lb cur 3) (hc1 : cur[0]? = some (.int .i64 a1)) (hk : 1 ≤ k) (ho : l[hd]? = some o) (u0 : 0 ≤ was) (u1 : was < 18446744073709551616) (hcc : cc < 4611686018427387903) (hov : ¬ o = was) :
    Calls Tryz.prog 141 #[.pointer (some ⟨g, 0, none⟩)] w fun e w' => e = .returned (.tuple #[]) ∧ Upd [g, m, b] w w' ∧
      Has w' g (pushOf (bound 83 g) c S (.slice (some ⟨lb, 0, none⟩) k cap) i was) 152 ∧ Mem w' m b N l (cc + 1) ⟨3, hd, o, o, false⟩ := by
  have ne_ := Has.ne hP hS (by decide); have ne_' := Ne.symm ne_
  have ne_ := Has.ne hP M.hg (by decide); have ne_' := Ne.symm ne_
  have ne_ := Has.ne hP M.hb (by decide); have ne_' := Ne.symm ne_
  have ne_ := Has.ne hP hL (by decide); have ne_' := Ne.symm ne_
  have ne_ := Has.ne hS M.hg (by decide); have ne_' := Ne.symm ne_
  have ne_ := Has.ne hS M.hb (by decide); have ne_' := Ne.symm ne_
  have ne_ := Has.ne hL M.hg (by decide); have ne_' := Ne.symm ne_
  have ne_ := Has.ne hL M.hb (by decide); have ne_' := Ne.symm ne_
  have ne_ := Has.ne hL hS (by decide); have ne_' := Ne.symm ne_
  have HO := Lib.hid ho
  have pi1 : (0 : Int) < (k : Int) := by omega
  have pk : 0 < k := by omega
  clear ho
  have FX_ := (hP).facts; simp only [blockFacts, listFacts, cellsAt, Nat.reduceAdd, and_true, true_and, and_assoc] at FX_
  have FX_ := (hS).facts; simp only [blockFacts, listFacts, cellsAt, Nat.reduceAdd, and_true, true_and, and_assoc, stackOf] at FX_
  have HP := hP
  have HS := hS
  have HL := hL
  go_enter Tryz.func141, Tryz.ntmps141
  go_wp2
  go_region_held3 (fun y => ((y.cell? ⟨g, 5, none⟩ = some (.pointer (some ⟨S, 0, none⟩)) ∧ y.cell? ⟨g, 6, none⟩ = some (.slice (some ⟨lb, 0, none⟩) k cap)) ∧ y.cell? ⟨g, 8, none⟩ = some (.int .u64 was)) ∧ y.cell? ⟨lb, 0, none⟩ = some (.int .i64 a1)) (((repeat' (with_reducible apply And.intro)) <;> (apply Has.cellv; (focus ((repeat (first | (with_reducible assumption) | (with_reducible exact Has.new _ _ _) | (with_reducible exact Has.new1 _ _ _ _) | (with_reducible exact Has.new2 _ _ _ _ _) | (with_reducible refine Has.newAt ?_; (simp; done)) | (with_reducible apply Has.set) | (with_reducible apply Has.far; (case hn => first | assumption | (simp; done) | (intro e_; simp at e_; omega))) | (with_reducible apply Has.alloc) | (with_reducible apply Has.drewN) | (with_reducible apply Has.drew) | (with_reducible refine Has.keeps ?_ (by with_reducible assumption)))))); (first | (with_reducible assumption) | rfl | (simp; done) | fail))))
    ((go_at_call 144; refine (exchange_ne hd _ _ _ (HS.keeps (by ((repeat' (first | (with_reducible exact Keeps.refl _) | (with_reducible assumption) | (with_reducible refine Keeps.drewN ?_ _) | (with_reducible refine Keeps.drew ?_) | (with_reducible refine Keeps.alloc ?_ _) | (with_reducible refine Keeps.setCell ?_ ?_ _) | (with_reducible refine Keeps.trans ?_ (After.keeps _)) | (with_reducible refine Keeps.trans ?_ (by with_reducible assumption)) | go_size)); (first | done | fail)))) (M.keeps (by ((repeat' (first | (with_reducible exact Keeps.refl _) | (with_reducible assumption) | (with_reducible refine Keeps.drewN ?_ _) | (with_reducible refine Keeps.drew ?_) | (with_reducible refine Keeps.alloc ?_ _) | (with_reducible refine Keeps.setCell ?_ ?_ _) | (with_reducible refine Keeps.trans ?_ (After.keeps _)) | (with_reducible refine Keeps.trans ?_ (by with_reducible assumption)) | go_size)); (first | done | fail)))) u0 u1 HO.out hov hcc).mono ?_; rintro e w' ⟨rfl, hu2, M2⟩; have HP := (HP.keeps (by ((repeat' (first | (with_reducible exact Keeps.refl _) | (with_reducible assumption) | (with_reducible refine Keeps.drewN ?_ _) | (with_reducible refine Keeps.drew ?_) | (with_reducible refine Keeps.alloc ?_ _) | (with_reducible refine Keeps.setCell ?_ ?_ _) | (with_reducible refine Keeps.trans ?_ (After.keeps _)) | (with_reducible refine Keeps.trans ?_ (by with_reducible assumption)) | go_size)); (first | done | fail)))).upd hu2 (by simp only [List.mem_cons, List.not_mem_nil, or_false, not_or]; (repeat' apply And.intro) <;> assumption); have HS := (HS.keeps (by ((repeat' (first | (with_reducible exact Keeps.refl _) | (with_reducible assumption) | (with_reducible refine Keeps.drewN ?_ _) | (with_reducible refine Keeps.drew ?_) | (with_reducible refine Keeps.alloc ?_ _) | (with_reducible refine Keeps.setCell ?_ ?_ _) | (with_reducible refine Keeps.trans ?_ (After.keeps _)) | (with_reducible refine Keeps.trans ?_ (by with_reducible assumption)) | go_size)); (first | done | fail)))).upd hu2 (by simp only [List.mem_cons, List.not_mem_nil, or_false, not_or]; (repeat' apply And.intro) <;> assumption); have HL := (HL.keeps (by ((repeat' (first | (with_reducible exact Keeps.refl _) | (with_reducible assumption) | (with_reducible refine Keeps.drewN ?_ _) | (with_reducible refine Keeps.drew ?_) | (with_reducible refine Keeps.alloc ?_ _) | (with_reducible refine Keeps.setCell ?_ ?_ _) | (with_reducible refine Keeps.trans ?_ (After.keeps _)) | (with_reducible refine Keeps.trans ?_ (by with_reducible assumption)) | go_size)); (first | done | fail)))).upd hu2 (by simp only [List.mem_cons, List.not_mem_nil, or_false, not_or]; (repeat' apply And.intro) <;> assumption); have FX_ := (HP).facts; simp only [blockFacts, listFacts, cellsAt, Nat.reduceAdd, and_true, true_and, and_assoc] at FX_; have FX_ := (HS).facts; simp only [blockFacts, listFacts, cellsAt, Nat.reduceAdd, and_true, true_and, and_assoc, stackOf] at FX_))
  go_wp2_with (go_at_call 41; go_in)
  go_end0
  exact ⟨rfl, (Upd.drew (Upd.refl _ _)).trans ((hu2.mono (fun x hx => by simp at hx ⊢; omega)).trans (by (repeat (first | (with_reducible exact Upd.refl _ _) | (with_reducible assumption) | (with_reducible refine Upd.setCell ?_ (by first | (left; simp; done) | (right; go_size)) _) | (with_reducible refine Upd.alloc ?_ _) | (with_reducible refine Upd.drewN ?_ _) | (with_reducible refine Upd.drew ?_))))), by (apply Has.congr; (focus ((repeat (first | (with_reducible assumption) | (with_reducible exact Has.new _ _ _) | (with_reducible exact Has.new1 _ _ _ _) | (with_reducible exact Has.new2 _ _ _ _ _) | (with_reducible refine Has.newAt ?_; (simp; done)) | (with_reducible apply Has.set) | (with_reducible apply Has.far; (case hn => first | assumption | (simp; done) | (intro e_; simp at e_; omega))) | (with_reducible apply Has.alloc) | (with_reducible apply Has.drewN) | (with_reducible apply Has.drew) | (with_reducible refine Has.keeps ?_ (by with_reducible assumption)))))); (first | rfl | (simp; done))), (by repeat' (first | (with_reducible assumption) | (with_reducible apply Mem.alloc) | (with_reducible apply Mem.drewN) | (with_reducible apply Mem.drew) | (with_reducible apply Mem.far; (case h1 => first | assumption | (simp; done) | (intro e_; simp at e_; omega)); (case h2 => first | assumption | (simp; done) | (intro e_; simp at e_; omega)))))⟩
end
end Go.Proofs.YtaecapjicphdkaaGreat

/- stack.New, the constructors of Push and Pop, walked. -/
namespace Go.Proofs.YtaecapjicphdkaaGreat
set_option linter.unusedVariables false
set_option linter.unusedSimpArgs false
open Go Go.RowKit
set_option maxRecDepth 100000
attribute [local go_sem ↓] Go.wp_at_zero Go.wp_at_succ
set_option maxHeartbeats 1000000

def inB (a : Int) (N : Nat) : Bool := decide (0 ≤ a) && decide (a < N)
theorem inB_true {a : Int} {N : Nat} : inB a N = true ↔ 0 ≤ a ∧ a < N := by simp [inB]
theorem inB_yes {a : Int} {N : Nat} (h0 : 0 ≤ a) (h1 : a < N) : inB a N = true := inB_true.2 ⟨h0, h1⟩
theorem inB_no {a : Int} {N : Nat} (h : a < 0 ∨ N ≤ a) : inB a N = false := by
  unfold inB
  rcases h with h | h
  · rw [decide_eq_false (show ¬ 0 ≤ a by omega)]; rfl
  · rw [decide_eq_false (show ¬ a < (N : Int) by omega)]; simp
section
variable {w : World} {m b N : Nat} {l : List Int} {cc : Int} {x : Acc}
theorem stackCell_c (q : Nat) (a : Int) (hq : w.cell? ⟨q, 0, none⟩ = some (.pointer (some ⟨m, 0, none⟩))) (M : Mem w m b N l cc x) :
    Calls Tryz.prog 75 #[.int .i64 a, .pointer (some ⟨q, 0, none⟩)] w fun e w' => e = .returned (.bool (inB a N)) ∧ w = w' := by
  go_enter Tryz.func75, Tryz.ntmps75
  by_cases h : 0 ≤ a
  · go_wp2_with (go_at_call 37; refine (mlen M).mono ?_; rintro e w' ⟨rfl, rfl⟩)
    go_ret
    exact ⟨by unfold inB; rw [decide_eq_true h]; rfl, rfl⟩
  · go_wp2
    go_ret
    exact ⟨by unfold inB; rw [decide_eq_false (show ¬ 0 ≤ a by omega)]; rfl, rfl⟩
theorem stackNew_c (at_ pins workers : Int) (M : Mem w m b N l cc x) (h1 : 1 ≤ workers) (h2 : workers ≤ 4096) (h3 : 0 ≤ at_) (h4 : at_ < N) (h5 : 0 ≤ pins) (h6 : pins + workers ≤ N) (h7 : at_ < pins ∨ pins + workers ≤ at_) :
    Calls Tryz.prog 38 #[.pointer (some ⟨m, 0, none⟩), .int .i64 at_, .int .i64 pins, .int .i64 workers] w fun e w' => ∃ E, e = .returned (.tuple #[.pointer (some ⟨E, 0, none⟩), .int .i64 0]) ∧ Keeps w w' ∧ w.heap.size ≤ E ∧
      Has w' E (stackOf m at_ pins workers) 143 := by
  have hmf : ∀ (fn : Fn) (first cap : Array Value) (w : World), (Instr.makeFunc fn first cap).run Tryz.prog w = .ok (.func fn first cap) w := fun _ _ _ _ => rfl
  have hs := M.small
  have B1 := Lib.hid (inB_yes h3 h4)
  have B2 := Lib.hid (inB_yes h5 (show pins < N by omega))
  have B3 := Lib.hid (inB_yes (show 0 ≤ pins + workers - 1 by omega) (show pins + workers - 1 < N by omega))
  have u1 : pins + workers ≤ 9000000 := by omega
  have u2 : 1 ≤ pins + workers := by omega
  rcases h7 with h7 | h7
  · go_enter Tryz.func38, Tryz.ntmps38
    go_wp2_with (go_at_call 75; refine (stackCell_c _ _ (by simp) (M.alloc _)).mono ?_; rintro e w' ⟨rfl, rfl⟩; first | rw [B1.out] | rw [B2.out] | rw [B3.out])
    go_ret2
    exact ⟨w.heap.size + 1, rfl, by ((repeat' (first | (with_reducible exact Keeps.refl _) | (with_reducible assumption) | (with_reducible refine Keeps.drewN ?_ _) | (with_reducible refine Keeps.drew ?_) | (with_reducible refine Keeps.alloc ?_ _) | (with_reducible refine Keeps.setCell ?_ ?_ _) | (with_reducible refine Keeps.trans ?_ (After.keeps _)) | (with_reducible refine Keeps.trans ?_ (by with_reducible assumption)) | go_size)); (first | done | fail)), by omega, by (apply Has.congr; (focus ((repeat (first | (with_reducible assumption) | (with_reducible exact Has.new _ _ _) | (with_reducible exact Has.new1 _ _ _ _) | (with_reducible exact Has.new2 _ _ _ _ _) | (with_reducible refine Has.newAt ?_; (simp; done)) | (with_reducible apply Has.set) | (with_reducible apply Has.far; (case hn => first | assumption | (simp; done) | (intro e_; simp at e_; omega))) | (with_reducible apply Has.alloc) | (with_reducible apply Has.drewN) | (with_reducible apply Has.drew) | (with_reducible refine Has.keeps ?_ (by with_reducible assumption)))))); (first | rfl | (simp; done)))⟩
  · have h8 : ¬ at_ < pins + workers := by omega
    have h9 : pins ≤ at_ := by omega
    go_enter Tryz.func38, Tryz.ntmps38
    go_wp2_with (go_at_call 75; refine (stackCell_c _ _ (by simp) (M.alloc _)).mono ?_; rintro e w' ⟨rfl, rfl⟩; first | rw [B1.out] | rw [B2.out] | rw [B3.out])
    go_ret2
    exact ⟨w.heap.size + 1, rfl, by ((repeat' (first | (with_reducible exact Keeps.refl _) | (with_reducible assumption) | (with_reducible refine Keeps.drewN ?_ _) | (with_reducible refine Keeps.drew ?_) | (with_reducible refine Keeps.alloc ?_ _) | (with_reducible refine Keeps.setCell ?_ ?_ _) | (with_reducible refine Keeps.trans ?_ (After.keeps _)) | (with_reducible refine Keeps.trans ?_ (by with_reducible assumption)) | go_size)); (first | done | fail)), by omega, by (apply Has.congr; (focus ((repeat (first | (with_reducible assumption) | (with_reducible exact Has.new _ _ _) | (with_reducible exact Has.new1 _ _ _ _) | (with_reducible exact Has.new2 _ _ _ _ _) | (with_reducible refine Has.newAt ?_; (simp; done)) | (with_reducible apply Has.set) | (with_reducible apply Has.far; (case hn => first | assumption | (simp; done) | (intro e_; simp at e_; omega))) | (with_reducible apply Has.alloc) | (with_reducible apply Has.drewN) | (with_reducible apply Has.drew) | (with_reducible refine Has.keeps ?_ (by with_reducible assumption)))))); (first | rfl | (simp; done)))⟩
theorem stackNew_no (at_ pins workers : Int) (M : Mem w m b N l cc x) (h : workers < 1 ∨ 4096 < workers ∨ at_ < 0 ∨ N ≤ at_ ∨ pins < 0 ∨ N < pins + workers ∨ (pins ≤ at_ ∧ at_ < pins + workers)) :
    Calls Tryz.prog 38 #[.pointer (some ⟨m, 0, none⟩), .int .i64 at_, .int .i64 pins, .int .i64 workers] w fun e w' => e = .returned (.tuple #[.pointer none, .int .i64 1]) ∧ Keeps w w' := by
  have hmf : ∀ (fn : Fn) (first cap : Array Value) (w : World), (Instr.makeFunc fn first cap).run Tryz.prog w = .ok (.func fn first cap) w := fun _ _ _ _ => rfl
  have hs := M.small
  by_cases c1 : workers < 1
  · clear h
    go_enter Tryz.func38, Tryz.ntmps38
    go_wp2
    go_ret2
    exact ⟨rfl, by ((repeat' (first | (with_reducible exact Keeps.refl _) | (with_reducible assumption) | (with_reducible refine Keeps.drewN ?_ _) | (with_reducible refine Keeps.drew ?_) | (with_reducible refine Keeps.alloc ?_ _) | (with_reducible refine Keeps.setCell ?_ ?_ _) | (with_reducible refine Keeps.trans ?_ (After.keeps _)) | (with_reducible refine Keeps.trans ?_ (by with_reducible assumption)) | go_size)); (first | done | fail))⟩
  by_cases c2 : 4096 < workers
  · clear h
    go_enter Tryz.func38, Tryz.ntmps38
    go_wp2
    go_ret2
    exact ⟨rfl, by ((repeat' (first | (with_reducible exact Keeps.refl _) | (with_reducible assumption) | (with_reducible refine Keeps.drewN ?_ _) | (with_reducible refine Keeps.drew ?_) | (with_reducible refine Keeps.alloc ?_ _) | (with_reducible refine Keeps.setCell ?_ ?_ _) | (with_reducible refine Keeps.trans ?_ (After.keeps _)) | (with_reducible refine Keeps.trans ?_ (by with_reducible assumption)) | go_size)); (first | done | fail))⟩
  by_cases c3 : at_ < 0 ∨ N ≤ at_
  · have B1 := Lib.hid (inB_no c3)
    clear h c3
    go_enter Tryz.func38, Tryz.ntmps38
    go_wp2_with (go_at_call 75; refine (stackCell_c _ _ (by simp) (M.alloc _)).mono ?_; rintro e w' ⟨rfl, rfl⟩; first | rw [B1.out])
    go_ret2
    exact ⟨rfl, by ((repeat' (first | (with_reducible exact Keeps.refl _) | (with_reducible assumption) | (with_reducible refine Keeps.drewN ?_ _) | (with_reducible refine Keeps.drew ?_) | (with_reducible refine Keeps.alloc ?_ _) | (with_reducible refine Keeps.setCell ?_ ?_ _) | (with_reducible refine Keeps.trans ?_ (After.keeps _)) | (with_reducible refine Keeps.trans ?_ (by with_reducible assumption)) | go_size)); (first | done | fail))⟩
  have B1 := Lib.hid (inB_yes (a := at_) (N := N) (by omega) (by omega))
  by_cases c4 : pins < 0 ∨ N ≤ pins
  · have B2 := Lib.hid (inB_no c4)
    clear h c3 c4
    go_enter Tryz.func38, Tryz.ntmps38
    go_wp2_with (go_at_call 75; refine (stackCell_c _ _ (by simp) (M.alloc _)).mono ?_; rintro e w' ⟨rfl, rfl⟩; first | rw [B1.out] | rw [B2.out])
    go_ret2
    exact ⟨rfl, by ((repeat' (first | (with_reducible exact Keeps.refl _) | (with_reducible assumption) | (with_reducible refine Keeps.drewN ?_ _) | (with_reducible refine Keeps.drew ?_) | (with_reducible refine Keeps.alloc ?_ _) | (with_reducible refine Keeps.setCell ?_ ?_ _) | (with_reducible refine Keeps.trans ?_ (After.keeps _)) | (with_reducible refine Keeps.trans ?_ (by with_reducible assumption)) | go_size)); (first | done | fail))⟩
  have B2 := Lib.hid (inB_yes (a := pins) (N := N) (by omega) (by omega))
  have u0 : pins + workers ≤ 18000000 := by omega
  have u1 : 1 ≤ pins + workers := by omega
  by_cases c5 : N < pins + workers
  · have B3 := Lib.hid (inB_no (a := pins + workers - 1) (N := N) (by omega))
    clear h c3 c4 c5
    go_enter Tryz.func38, Tryz.ntmps38
    go_wp2_with (go_at_call 75; refine (stackCell_c _ _ (by simp) (M.alloc _)).mono ?_; rintro e w' ⟨rfl, rfl⟩; first | rw [B1.out] | rw [B2.out] | rw [B3.out])
    go_ret2
    exact ⟨rfl, by ((repeat' (first | (with_reducible exact Keeps.refl _) | (with_reducible assumption) | (with_reducible refine Keeps.drewN ?_ _) | (with_reducible refine Keeps.drew ?_) | (with_reducible refine Keeps.alloc ?_ _) | (with_reducible refine Keeps.setCell ?_ ?_ _) | (with_reducible refine Keeps.trans ?_ (After.keeps _)) | (with_reducible refine Keeps.trans ?_ (by with_reducible assumption)) | go_size)); (first | done | fail))⟩
  have B3 := Lib.hid (inB_yes (a := pins + workers - 1) (N := N) (by omega) (by omega))
  have c6 : pins ≤ at_ := by omega
  have c7 : at_ < pins + workers := by omega
  clear h c3 c4 c5
  go_enter Tryz.func38, Tryz.ntmps38
  go_wp2_with (go_at_call 75; refine (stackCell_c _ _ (by simp) (M.alloc _)).mono ?_; rintro e w' ⟨rfl, rfl⟩; first | rw [B1.out] | rw [B2.out] | rw [B3.out])
  go_ret2
  exact ⟨rfl, by ((repeat' (first | (with_reducible exact Keeps.refl _) | (with_reducible assumption) | (with_reducible refine Keeps.drewN ?_ _) | (with_reducible refine Keeps.drew ?_) | (with_reducible refine Keeps.alloc ?_ _) | (with_reducible refine Keeps.setCell ?_ ?_ _) | (with_reducible refine Keeps.trans ?_ (After.keeps _)) | (with_reducible refine Keeps.trans ?_ (by with_reducible assumption)) | go_size)); (first | done | fail))⟩
end
end Go.Proofs.YtaecapjicphdkaaGreat
